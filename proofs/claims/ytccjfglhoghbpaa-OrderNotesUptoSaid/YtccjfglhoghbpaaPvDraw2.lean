import Derived.Test.YtccjfglhoghbpaaPvDraw
namespace Go.Pv
open Go Go.RowKit

/-- j comes before i in every order. -/
inductive Befo (ops : Array Oper) : Nat → Nat → Prop
  | edge {i : Nat} {o : Oper} {e : Edge} (ho : ops[i]? = some o) (he : e ∈ o.after) (hb : Region.binds .any e = true) : Befo ops e.on i
  | step {i j : Nat} {o : Oper} {e : Edge} (ho : ops[i]? = some o) (he : e ∈ o.after) (hb : Region.binds .any e = true) (h : Befo ops j e.on) : Befo ops j i

theorem before_sound (ops : Array Oper) : ∀ i j, ((Region.before ops).getD i 0).testBit j = true → Befo ops j i := by
  have key : ∀ (l : List Oper) (acc : Array Nat) (k : Nat), (∀ i, ops[k + i]? = l[i]?) → acc.size = k → (∀ i j, (acc.getD i 0).testBit j = true → Befo ops j i) →
      ∀ i j, ((l.foldl (fun (acc : Array Nat) (o : Oper) => acc.push (o.after.foldl (fun s e => if Region.binds .any e then s ||| 2 ^ e.on ||| acc.getD e.on 0 else s) 0)) acc).getD i 0).testBit j = true → Befo ops j i := by
    intro l
    induction l with
    | nil => intro acc k _ _ h; exact h
    | cons o l ih =>
      intro acc k hl hs h
      refine ih _ (k + 1) (fun i => by have := hl (i + 1); rw [show k + 1 + i = k + (i + 1) from by omega]; simpa using this) (by simp [hs]) ?_
      intro i j hij
      have ho : ops[k]? = some o := by have := hl 0; simpa using this
      have inner : ∀ (es : List Edge) (x : Nat), (∀ e, e ∈ es → e ∈ o.after) → (∀ j, x.testBit j = true → Befo ops j k) → ∀ j, (es.foldl (fun s e => if Region.binds .any e then s ||| 2 ^ e.on ||| acc.getD e.on 0 else s) x).testBit j = true → Befo ops j k := by
        intro es
        induction es with
        | nil => intro x _ hx; exact hx
        | cons e es ihe =>
          intro x he hx
          refine ihe _ (fun e' h' => he e' (by simp [h'])) (fun j hj => ?_)
          dsimp only at hj
          split at hj
          · rename_i hb
            simp only [Nat.testBit_or, Bool.or_eq_true] at hj
            rcases hj with (hj | hj) | hj
            · exact hx j hj
            · rw [Nat.testBit_two_pow] at hj
              have : e.on = j := by simpa using hj
              subst this
              exact .edge ho (he e (by simp)) hb
            · exact .step ho (he e (by simp)) hb (h _ _ hj)
          · exact hx j hj
      dsimp only at hij
      by_cases hi : i < acc.size
      · rw [Array.getD_eq_getD_getElem?, Array.getElem?_push_lt hi] at hij
        refine h i j ?_
        simpa [hi] using hij
      · by_cases hik : i = acc.size
        · subst hik
          rw [hs]
          rw [Array.getD_eq_getD_getElem?] at hij
          simp only [Array.getElem?_push_size, Option.getD_some] at hij
          rw [← Array.foldl_toList] at hij
          exact inner o.after.toList 0 (fun e he => by simpa using he) (fun j hj => by simp at hj) j hij
        · rw [Array.getD_eq_getD_getElem?, Array.getElem?_eq_none (by simp; omega)] at hij
          simp at hij
  intro i j h
  unfold Region.before at h
  rw [← Array.foldl_toList] at h
  exact key ops.toList #[] 0 (fun i => by simp) rfl (fun i j h => by simp at h) i j h

/-- What makes the order of a region's operations idle. -/
def cmB (a b : Nat) : Bool := a == 0 || b == 0 || (a == 1 && (b == 1 || b == 3)) || (a == 3 && b == 1)
def pairOk (K : Kc) (ops : Array Oper) (b : Array Nat) (i j : Nat) (x y : Oper) : Bool :=
  (b.getD j 0).testBit i ||
  ((match x.dst with | some d => !(y.looksAt ops).contains d && y.dst != some d | none => true) &&
   (match y.dst with | some d => !(x.looksAt ops).contains d | none => true) &&
   cmB (cls K x) (cls K y))
def commOK (K : Kc) (ops : Array Oper) : Bool :=
  let b := Region.before ops
  ops.toList.zipIdx.all fun (y, j) =>
    (match y.dst with | some d => !(y.looksAt ops).contains d | none => true) &&
    (y.after.all fun e => !Region.binds .any e || e.on < j) &&
    (match y.guard with | some (g, _) => g < j | none => true) &&
    ops.toList.zipIdx.all fun (x, i) => if i < j then pairOk K ops b i j x y && (match x.dst with | some d => y.dst != some d | none => true) else true

/-- Which classes do not disturb one another. -/
def Cm (a b : Nat) : Prop := a = 0 ∨ b = 0 ∨ (a = 1 ∧ (b = 1 ∨ b = 3)) ∨ (a = 3 ∧ b = 1)
theorem cm_of {a b : Nat} (h : cmB a b = true) : Cm a b := by
  simp only [cmB, Bool.or_eq_true, Bool.and_eq_true, beq_iff_eq] at h
  unfold Cm
  omega

section
variable {w0 : Base} {κ : Kr} {P : Program} {K : Kc} {Fr : Nat → Nat → Prop} {cf : CF} {nt : Nat} {ops : Array Oper}

/-- The order is idle; 'Fr r w': the reader r doesn't look at what w writes (shown apart). -/
structure CommOk (K : Kc) (Fr : Nat → Nat → Prop) (ops : Array Oper) : Prop where
  self : ∀ (j : Nat) (y : Oper), ops[j]? = some y → ∀ d, y.dst = some d → d ∉ y.looksAt ops
  low : ∀ (j : Nat) (y : Oper), ops[j]? = some y → ∀ e, e ∈ y.after → Region.binds .any e = true → e.on < j
  dst : ∀ (i j : Nat) (x y : Oper), i ≠ j → ops[i]? = some x → ops[j]? = some y → ∀ d, x.dst = some d → y.dst ≠ some d
  pair : ∀ (i j : Nat) (x y : Oper), i < j → ops[i]? = some x → ops[j]? = some y → Befo ops i j ∨ ((∀ d, x.dst = some d → d ∉ y.looksAt ops) ∧ (∀ d, y.dst = some d → d ∉ x.looksAt ops) ∧ (Cm (cls K x) (cls K y) ∨ Fr i j ∨ Fr j i))
  fr : ∀ (i j : Nat) (x : Oper), Fr i j → ops[i]? = some x → cls K x = 1

theorem mem_zipIdx {ops : Array Oper} {i : Nat} {x : Oper} (h : ops[i]? = some x) : (x, i) ∈ ops.toList.zipIdx := by
  rw [List.mem_zipIdx_iff_getElem?]
  simpa using h

theorem commOK_sound (h : commOK K ops = true) : CommOk K (fun _ _ => False) ops := by
  unfold commOK at h
  simp only [List.all_eq_true] at h
  have lower : ∀ (i j : Nat) (x y : Oper), i < j → ops[i]? = some x → ops[j]? = some y → pairOk K ops (Region.before ops) i j x y = true ∧ ∀ d, x.dst = some d → y.dst ≠ some d := by
    intro i j x y hij hx hy
    have := h (y, j) (mem_zipIdx hy)
    simp only [Bool.and_eq_true, List.all_eq_true] at this
    have h2 := this.2 (x, i) (mem_zipIdx hx)
    simp only [hij, if_true, Bool.and_eq_true] at h2
    refine ⟨h2.1, fun d hd e => ?_⟩
    have h3 := h2.2
    rw [hd] at h3
    simp [e] at h3
  refine ⟨fun j y hy d hd => ?_, fun j y hy e he hb => ?_, fun i j x y hij hx hy d hd => ?_, fun i j x y hij hx hy => ?_, fun _ _ _ h => h.elim⟩
  · have := h (y, j) (mem_zipIdx hy)
    simp only [Bool.and_eq_true] at this
    have h2 := this.1.1.1
    rw [hd] at h2
    simpa using h2
  · have := h (y, j) (mem_zipIdx hy)
    simp only [Bool.and_eq_true] at this
    have h2 := this.1.1.2
    rw [Array.all_eq_true'] at h2
    have h3 := h2 e he
    simpa [hb] using h3
  · rcases Nat.lt_or_ge i j with h1 | h1
    · exact (lower i j x y h1 hx hy).2 d hd
    · exact fun e => (lower j i y x (by omega) hy hx).2 d e hd
  · have h2 := (lower i j x y hij hx hy).1
    unfold pairOk at h2
    rw [Bool.or_eq_true] at h2
    rcases h2 with h2 | h2
    · exact .inl (before_sound ops _ _ h2)
    · simp only [Bool.and_eq_true] at h2
      obtain ⟨⟨h3, h4⟩, h5⟩ := h2
      refine .inr ⟨fun d hd => ?_, fun d hd => ?_, ?_⟩
      · rw [hd] at h3
        simp only [Bool.and_eq_true] at h3
        simpa using h3.1
      · rw [hd] at h4
        simpa using h4
      · exact .inl (cm_of h5)

/-- The run in the order of the text, written out. -/
structure TextRun (P : Program) (K : Kc) (cf : CF) (ops : Array Oper) (E : Nat → Env) (Z : Nat → Sto) (pv : Nat → PV) : Prop where
  step : ∀ (i : Nat) (o : Oper), ops[i]? = some o → ∃ b, wantedP ops (E i) o = some b ∧ (b = true → evOp P K.wr cf (E i) (Z i) o = some (pv i, Z (i + 1))) ∧ (b = false → pv i = skipP ∧ Z (i + 1) = Z i) ∧ E (i + 1) = putE (E i) o.dst (pv i)

theorem textRun_aux : ∀ (os : List Oper) (k : Nat) (e e' : Env) (s s' : Sto), (∀ i, ops[k + i]? = os[i]?) → evOps P K.wr cf ops os e s = some (e', s') →
    ∃ (E : Nat → Env) (Z : Nat → Sto) (pv : Nat → PV), E k = e ∧ Z k = s ∧ E (k + os.length) = e' ∧ Z (k + os.length) = s' ∧ ∀ (i : Nat) (o : Oper), k ≤ i → ops[i]? = some o → ∃ b, wantedP ops (E i) o = some b ∧ (b = true → evOp P K.wr cf (E i) (Z i) o = some (pv i, Z (i + 1))) ∧ (b = false → pv i = skipP ∧ Z (i + 1) = Z i) ∧ E (i + 1) = putE (E i) o.dst (pv i)
  | [], k, e, e', s, s', hl, h => by
    simp only [evOps, Option.some.injEq, Prod.mk.injEq] at h
    obtain ⟨rfl, rfl⟩ := h
    refine ⟨fun _ => e, fun _ => s, fun _ => .any, rfl, rfl, rfl, rfl, fun i o hi ho => ?_⟩
    have := hl (i - k)
    rw [show k + (i - k) = i from by omega, ho] at this
    simp at this
  | o :: os, k, e, e', s, s', hl, h => by
    have hk : ops[k]? = some o := by have := hl 0; simpa using this
    have hl' : ∀ i, ops[k + 1 + i]? = os[i]? := fun i => by have := hl (i + 1); rw [show k + 1 + i = k + (i + 1) from by omega]; simpa using this
    have build : ∀ (p : PV) (s1 : Sto) (b : Bool), wantedP ops e o = some b → (b = true → evOp P K.wr cf e s o = some (p, s1)) → (b = false → p = skipP ∧ s1 = s) → evOps P K.wr cf ops os (putE e o.dst p) s1 = some (e', s') →
        ∃ (E : Nat → Env) (Z : Nat → Sto) (pv : Nat → PV), E k = e ∧ Z k = s ∧ E (k + (o :: os).length) = e' ∧ Z (k + (o :: os).length) = s' ∧ ∀ (i : Nat) (o : Oper), k ≤ i → ops[i]? = some o → ∃ b, wantedP ops (E i) o = some b ∧ (b = true → evOp P K.wr cf (E i) (Z i) o = some (pv i, Z (i + 1))) ∧ (b = false → pv i = skipP ∧ Z (i + 1) = Z i) ∧ E (i + 1) = putE (E i) o.dst (pv i) := by
      intro p s1 b hw ht hf hrest
      obtain ⟨E, Z, pv, h1, h2, h3, h4, h5⟩ := textRun_aux os (k + 1) _ e' s1 s' hl' hrest
      refine ⟨fun i => if i ≤ k then e else E i, fun i => if i ≤ k then s else Z i, fun i => if i ≤ k then p else pv i, by simp, by simp, ?_, ?_, fun i o' hi ho => ?_⟩
      · simp only [List.length_cons]
        rw [if_neg (by omega), show k + (os.length + 1) = k + 1 + os.length from by omega]
        exact h3
      · simp only [List.length_cons]
        rw [if_neg (by omega), show k + (os.length + 1) = k + 1 + os.length from by omega]
        exact h4
      · by_cases hik : i = k
        · subst hik
          rw [hk] at ho
          simp only [Option.some.injEq] at ho
          subst ho
          have hn : ¬ (i + 1 ≤ i) := by omega
          refine ⟨b, by simpa using hw, fun hb => ?_, fun hb => ?_, ?_⟩
          · simp only [Nat.le_refl, if_true, hn, if_false, h2]
            exact ht hb
          · simp only [Nat.le_refl, if_true, hn, if_false, h2]
            exact hf hb
          · simp only [Nat.le_refl, if_true, hn, if_false, h1]
        · have hn : ¬ (i ≤ k) := by omega
          have hn1 : ¬ (i + 1 ≤ k) := by omega
          obtain ⟨b', g1, g2, g3, g4⟩ := h5 i o' (by omega) ho
          exact ⟨b', by simpa [hn] using g1, by simpa [hn, hn1] using g2, by simpa [hn, hn1] using g3, by simpa [hn, hn1] using g4⟩
    simp only [evOps] at h
    split at h
    · rename_i hw
      split at h
      · rename_i p s1 hop
        exact build p s1 true hw (fun _ => hop) (by simp) h
      · simp at h
    · rename_i hw
      exact build skipP s false hw (by simp) (fun _ => ⟨rfl, rfl⟩) h
    · simp at h

theorem putE_ne {e : Env} {dst : Option Tmp} {p : PV} {t : Nat} (h : dst ≠ some t) : putE e dst p t = e t := by
  cases dst with
  | none => rfl
  | some d =>
    simp only [putE, upd]
    rw [if_neg (fun e => h (by rw [e]))]
theorem putE_eq {e : Env} {p : PV} {t : Nat} : putE e (some t) p t = p := by simp [putE, upd]

theorem Befo.lt (hc : CommOk K Fr ops) {i j : Nat} (h : Befo ops j i) : j < i := by
  induction h with
  | edge ho he hb => exact hc.low _ _ ho _ he hb
  | step ho he hb _ ih => exact Nat.lt_trans ih (hc.low _ _ ho _ he hb)

/-- Text run: what a slot holds. -/
theorem TextRun.keep {E : Nat → Env} {Z : Nat → Sto} {pv : Nat → PV} (h : TextRun P K cf ops E Z pv) {t : Nat} : ∀ (k i : Nat), (∀ (j : Nat) (x : Oper), i ≤ j → j < i + k → ops[j]? = some x → x.dst ≠ some t) → i + k ≤ ops.size → E (i + k) t = E i t
  | 0, i, _, _ => rfl
  | k + 1, i, hn, hs => by
    have hlt : i + k < ops.size := by omega
    obtain ⟨b, _, _, _, h4⟩ := h.step (i + k) ops[i + k] (by simp [hlt])
    rw [show i + (k + 1) = i + k + 1 from by omega, h4, putE_ne (hn (i + k) _ (by omega) (by omega) (by simp [hlt]))]
    exact TextRun.keep h k i (fun j x h1 h2 => hn j x h1 (by omega)) (by omega)
theorem TextRun.keepZ {E : Nat → Env} {Z : Nat → Sto} {pv : Nat → PV} (h : TextRun P K cf ops E Z pv) (hcf : CFpure K.wr cf) : ∀ (k i : Nat), (∀ (j : Nat) (x : Oper), i ≤ j → j < i + k → ops[j]? = some x → cls K x = 0 ∨ cls K x = 1) → i + k ≤ ops.size → Z (i + k) = Z i
  | 0, i, _, _ => rfl
  | k + 1, i, hn, hs => by
    have hlt : i + k < ops.size := by omega
    have hx : ops[i + k]? = some ops[i + k] := by simp [hlt]
    obtain ⟨b, _, h2, h3, _⟩ := h.step (i + k) ops[i + k] hx
    have hsame : Z (i + k + 1) = Z (i + k) := by
      cases b with
      | true =>
        rcases hn (i + k) _ (by omega) (by omega) hx with hc | hc
        · exact (cls0 hc (h2 rfl)).1
        · exact cls1 hcf hc (h2 rfl)
      | false => exact (h3 rfl).2
    rw [show i + (k + 1) = i + k + 1 from by omega, hsame]
    exact TextRun.keepZ h hcf k i (fun j x h1 h2 => hn j x h1 (by omega)) (by omega)

theorem mem_looks {o : Oper} {t : Nat} (h : Operand.tmp t ∈ o.op.operands) : t ∈ o.looksAt ops := by
  unfold Oper.looksAt
  refine List.mem_append_left _ ?_
  rw [List.mem_filterMap]
  exact ⟨.tmp t, by simpa using h, rfl⟩

theorem wantedP_congr {e e' : Env} {o : Oper} (h : ∀ t, t ∈ o.looksAt ops → e t = e' t) : wantedP ops e o = wantedP ops e' o := by
  unfold wantedP
  split
  · rfl
  · rename_i j want hg
    split
    · rename_i d hd
      rw [h d]
      unfold Oper.looksAt
      refine List.mem_append_right _ ?_
      rw [hg]
      simp only
      rw [hd]
      simp
    · rfl

/-- The stage in an order that was drawn: the operations of S have run. -/
structure Mid (P : Program) (K : Kc) (cf : CF) (ops : Array Oper) (E : Nat → Env) (Z : Nat → Sto) (S : Nat → Prop) (e : Env) (s : Sto) : Prop where
  closed : ∀ (i : Nat) (o : Oper), S i → ops[i]? = some o → ∀ ed, ed ∈ o.after → Region.binds .any ed = true → S ed.on
  inR : ∀ i, S i → i < ops.size
  done : ∀ (i : Nat) (o : Oper) (t : Nat), S i → ops[i]? = some o → o.dst = some t → e t = E ops.size t
  not : ∀ t, (∀ (i : Nat) (o : Oper), S i → ops[i]? = some o → o.dst ≠ some t) → e t = E 0 t
  sto : ∃ m, m ≤ ops.size ∧ s = Z m ∧ ∀ (j : Nat) (x : Oper), ops[j]? = some x → cls K x ≠ 0 → cls K x ≠ 1 → (S j ↔ j < m)

theorem Mid.reach {E : Nat → Env} {Z : Nat → Sto} {S : Nat → Prop} {e : Env} {s : Sto} (h : Mid P K cf ops E Z S e s) {i j : Nat} (hr : Befo ops j i) : S i → S j := by
  induction hr with
  | edge ho he hb => exact fun hs => h.closed _ _ hs ho _ he hb
  | step ho he hb _ ih => exact fun hs => ih (h.closed _ _ hs ho _ he hb)

theorem TextRun.wf {E : Nat → Env} {Z : Nat → Sto} {pv : Nat → PV} (h : TextRun P K cf ops E Z pv) (hk : CFp K cf) (hw : wfS (Z 0)) : ∀ i, i ≤ ops.size → Keeps (Z 0) (Z i)
  | 0, _ => .refl hw
  | i + 1, hi => by
    have ih := TextRun.wf h hk hw i (by omega)
    obtain ⟨b, _, h2, h3, _⟩ := h.step i ops[i] (by simp)
    cases b with
    | true => exact ih.trans (evOp_keep hk ih.1 (h2 rfl))
    | false => rw [(h3 rfl).2]; exact ih
theorem TextRun.next_le {E : Nat → Env} {Z : Nat → Sto} {pv : Nat → PV} (h : TextRun P K cf ops E Z pv) (hk : CFp K cf) (hw : wfS (Z 0)) (a : Nat) : ∀ b, a + b ≤ ops.size → (Z a).next ≤ (Z (a + b)).next
  | 0, _ => Nat.le_refl _
  | b + 1, hb => by
    have ih := TextRun.next_le h hk hw a b (by omega)
    have hwf := (h.wf hk hw (a + b) (by omega)).1
    have hlt : a + b < ops.size := by omega
    obtain ⟨c, _, h2, h3, _⟩ := h.step (a + b) ops[a + b] (by simp [hlt])
    rw [show a + (b + 1) = a + b + 1 from by omega]
    cases c with
    | true => exact Nat.le_trans ih (evOp_keep hk hwf (h2 rfl)).2.2
    | false => rw [(h3 rfl).2]; exact ih
/-- A block that nothing in between writes. -/
theorem TextRun.chain {E : Nat → Env} {Z : Nat → Sto} {pv : Nat → PV} (h : TextRun P K cf ops E Z pv) (hk : CFp K cf) (hw : wfS (Z 0)) (ho : K.own = false → (Z 0).own = false) {id a : Nat} (hid : id < (Z a).next) : ∀ b, a + b ≤ ops.size →
    (∀ (j : Nat) (x : Oper), a ≤ j → j < a + b → ops[j]? = some x → cls K x = 0 ∨ cls K x = 1 ∨ cls K x = 3 ∨ ∀ cs, (Z j).get id = some (.cells cs) ↔ (Z (j + 1)).get id = some (.cells cs)) →
    ∀ cs, (Z a).get id = some (.cells cs) ↔ (Z (a + b)).get id = some (.cells cs)
  | 0, _, _, cs => Iff.rfl
  | b + 1, hb, hx, cs => by
    have ih := TextRun.chain h hk hw ho hid b (by omega) (fun j x h1 h2 h3 => hx j x h1 (by omega) h3) cs
    have hlt : a + b < ops.size := by omega
    have hop : ops[a + b]? = some ops[a + b] := by simp [hlt]
    obtain ⟨c, _, h2, h3, _⟩ := h.step (a + b) ops[a + b] hop
    have hnx := h.next_le hk hw a b (by omega)
    have hke := h.wf hk hw (a + b) (by omega)
    rw [ih, show a + (b + 1) = a + b + 1 from by omega]
    cases c with
    | false => rw [(h3 rfl).2]
    | true =>
      rcases hx (a + b) _ (by omega) (by omega) hop with g | g | g | g
      · rw [(cls0 g (h2 rfl)).1]
      · rw [cls1 hk.pure g (h2 rfl)]
      · exact evOp_push hk g (fun e => by rw [hke.2.1]; exact ho e) (h2 rfl) id (by omega) cs
      · exact g cs
theorem cm_two {a b : Nat} (a0 : a ≠ 0) (a1 : a ≠ 1) (b0 : b ≠ 0) (b1 : b ≠ 1) : ¬ Cm a b := by unfold Cm; omega

/-- What is asked of 'Fr'. -/
def FrOk (Fr : Nat → Nat → Prop) (ops : Array Oper) (E : Nat → Env) (Z : Nat → Sto) : Prop := ∀ r w, Fr r w → ∀ o, ops[r]? = some o → ∀ x, x ∈ o.op.operands → ∀ id, id ∈ topIds (evO (E r) x) → ∀ cs, (Z w).get id = some (.cells cs) ↔ (Z (w + 1)).get id = some (.cells cs)

theorem Mid.next {E : Nat → Env} {Z : Nat → Sto} {pv : Nat → PV} (hT : TextRun P K cf ops E Z pv) (hc : CommOk K Fr ops) (hk : CFp K cf) (hwf : wfS (Z 0)) (hown : K.own = false → (Z 0).own = false) (hfr : FrOk Fr ops E Z) {S : Nat → Prop} {e : Env} {s : Sto} (h : Mid P K cf ops E Z S e s) {i : Nat} {o : Oper} (ho : ops[i]? = some o) (hn : ¬ S i)
    (hbel : ∀ x, x ∈ o.op.operands → ∀ id, id ∈ topIds (evO e x) → id < s.next)
    (hpre : ∀ ed, ed ∈ o.after → Region.binds .any ed = true → S ed.on) :
    ∃ b s', wantedP ops e o = some b ∧ (b = true → evOp P K.wr cf e s o = some (pv i, s')) ∧ (b = false → pv i = skipP ∧ s' = s) ∧ Mid P K cf ops E Z (fun j => S j ∨ j = i) (putE e o.dst (pv i)) s' := by
  have hcf := hk.pure
  have hlt : i < ops.size := by
    rcases Nat.lt_or_ge i ops.size with h1 | h1
    · exact h1
    · rw [Array.getElem?_eq_none h1] at ho; simp at ho
  have ltOf : ∀ {j : Nat} {x : Oper}, ops[j]? = some x → j < ops.size := fun {j x} hj => by
    rcases Nat.lt_or_ge j ops.size with h1 | h1
    · exact h1
    · rw [Array.getElem?_eq_none h1] at hj; simp at hj
  obtain ⟨b, hw, ht, hf, hput⟩ := hT.step i o ho
  have pre : ∀ j, Befo ops j i → S j := by
    intro j hr
    cases hr with
    | edge ho' he hb => rw [ho] at ho'; simp only [Option.some.injEq] at ho'; subst ho'; exact hpre _ he hb
    | step ho' he hb hr' => rw [ho] at ho'; simp only [Option.some.injEq] at ho'; subst ho'; exact h.reach hr' (hpre _ he hb)
  have suc : ∀ j, Befo ops i j → ¬ S j := fun j hr hs => hn (h.reach hr hs)
  -- slots that the operation looks at
  have agree : ∀ t, t ∈ o.looksAt ops → e t = E i t := by
    intro t htl
    by_cases hex : ∃ (j : Nat) (x : Oper), ops[j]? = some x ∧ x.dst = some t
    · obtain ⟨j, x, hx, hd⟩ := hex
      have hji : j ≠ i := fun e => by subst e; rw [ho] at hx; simp only [Option.some.injEq] at hx; subst hx; exact hc.self _ _ ho _ hd htl
      have uniq : ∀ (k : Nat) (y : Oper), ops[k]? = some y → y.dst = some t → k = j := fun k y hk hy => by
        rcases Nat.lt_or_ge k j with h1 | h1
        · exact absurd hd (hc.dst k j y x (by omega) hk hx t hy)
        · rcases Nat.lt_or_ge j k with h2 | h2
          · exact absurd hy (hc.dst j k x y (by omega) hx hk t hd)
          · omega
      rcases Nat.lt_or_ge j i with hlt' | hge
      · have hr : Befo ops j i := by
          rcases hc.pair j i x o hlt' hx ho with hr | hr
          · exact hr
          · exact absurd htl (hr.1 t hd)
        rw [h.done j x t (pre j hr) hx hd]
        have := hT.keep (t := t) (ops.size - i) i (fun k y h1 h2 hk hy => by have := uniq k y hk hy; omega) (by omega)
        rw [show i + (ops.size - i) = ops.size from by omega] at this
        exact this
      · have hr : Befo ops i j := by
          rcases hc.pair i j o x (by omega) ho hx with hr | hr
          · exact hr
          · exact absurd htl (hr.2.1 t hd)
        have hnS : ∀ (k : Nat) (y : Oper), S k → ops[k]? = some y → y.dst ≠ some t := fun k y hk hy he => by
          have := uniq k y hy he
          subst this
          exact suc _ hr hk
        rw [h.not t hnS]
        have := hT.keep (t := t) i 0 (fun k y h1 h2 hk hy => by have := uniq k y hk hy; omega) (by omega)
        rw [Nat.zero_add] at this
        exact this.symm
    · have hno : ∀ (k : Nat) (y : Oper), ops[k]? = some y → y.dst ≠ some t := fun k y hk hy => hex ⟨k, y, hk, hy⟩
      rw [h.not t (fun k y _ hk => hno k y hk)]
      have := hT.keep (t := t) i 0 (fun k y _ _ hk => hno k y hk) (by omega)
      rw [Nat.zero_add] at this
      exact this.symm
  have hops : ∀ x, x ∈ o.op.operands → evO e x = evO (E i) x := by
    intro x hx
    cases x with
    | tmp t => exact agree t (mem_looks hx)
    | _ => rfl
  have hw' : wantedP ops e o = some b := by rw [wantedP_congr agree]; exact hw
  obtain ⟨m, hm, hsm, hwm⟩ := h.sto
  -- the store, where the operation writes
  have hZ : cls K o ≠ 0 → cls K o ≠ 1 → s = Z i := by
    intro h0 h1
    have hbef : ∀ (j : Nat) (x : Oper), ops[j]? = some x → cls K x ≠ 0 → cls K x ≠ 1 → j ≠ i → (j < m ↔ j < i) := by
      intro j x hx c0 c1 hji
      rw [← hwm j x hx c0 c1]
      constructor
      · intro hs
        rcases Nat.lt_or_ge j i with h2 | h2
        · exact h2
        · exfalso
          rcases hc.pair i j o x (by omega) ho hx with hr | ⟨_, _, hr⟩
          · exact suc j hr hs
          · rcases hr with hr | hr | hr
            · exact cm_two h0 h1 c0 c1 hr
            · exact h1 (hc.fr _ _ _ hr ho)
            · exact c1 (hc.fr _ _ _ hr hx)
      · intro hji'
        rcases hc.pair j i x o hji' hx ho with hr | ⟨_, _, hr⟩
        · exact pre j hr
        · exfalso
          rcases hr with hr | hr | hr
          · exact cm_two c0 c1 h0 h1 hr
          · exact c1 (hc.fr _ _ _ hr hx)
          · exact h1 (hc.fr _ _ _ hr ho)
    have quiet : ∀ (j : Nat) (x : Oper), ops[j]? = some x → j ≠ i → ¬ (j < m ↔ j < i) → cls K x = 0 ∨ cls K x = 1 := by
      intro j x hx hji hne
      by_cases c0 : cls K x = 0
      · exact .inl c0
      · by_cases c1 : cls K x = 1
        · exact .inr c1
        · exact absurd (hbef j x hx c0 c1 hji) hne
    rw [hsm]
    rcases Nat.lt_or_ge i m with h2 | h2
    · exact absurd ((hwm i o ho h0 h1).2 h2) hn
    · have := hT.keepZ hcf (i - m) m (fun j x g1 g2 hx => quiet j x hx (by omega) (by omega)) (by omega)
      rw [show m + (i - m) = i from by omega] at this
      exact this.symm
  -- the store, where it reads: what it looks at is the same
  have hR : cls K o = 1 → ∀ p s1, evOp P K.wr cf (E i) (Z i) o = some (p, s1) → evOp P K.wr cf (E i) s o = some (p, s) := by
    intro h1 p s1 hev
    refine evOp_loc hk h1 hev (fun x hx id hid cs hcs => ?_)
    have between : ∀ (j : Nat) (x : Oper), ops[j]? = some x → j ≠ i → ¬ (j < m ↔ j < i) → cls K x = 0 ∨ cls K x = 1 ∨ cls K x = 3 ∨ ∀ cs, (Z j).get id = some (.cells cs) ↔ (Z (j + 1)).get id = some (.cells cs) := by
      intro j y hy hji hne
      by_cases c0 : cls K y = 0
      · exact .inl c0
      by_cases c1 : cls K y = 1
      · exact .inr (.inl c1)
      by_cases c3 : cls K y = 3
      · exact .inr (.inr (.inl c3))
      refine .inr (.inr (.inr ?_))
      have hSm := hwm j y hy c0 c1
      rcases Nat.lt_or_ge j i with h2 | h2
      · rcases hc.pair j i y o h2 hy ho with hr | ⟨_, _, hr⟩
        · exact absurd ⟨fun _ => h2, fun _ => hSm.1 (pre j hr)⟩ hne
        · rcases hr with hr | hr | hr
          · unfold Cm at hr; omega
          · exact absurd (hc.fr _ _ _ hr hy) c1
          · exact hfr i j hr o ho x hx id hid
      · rcases hc.pair i j o y (by omega) ho hy with hr | ⟨_, _, hr⟩
        · have : ¬ j < m := fun h3 => suc j hr (hSm.2 h3)
          exact absurd ⟨fun h3 => absurd h3 this, fun h3 => by omega⟩ hne
        · rcases hr with hr | hr | hr
          · unfold Cm at hr; omega
          · exact hfr i j hr o ho x hx id hid
          · exact absurd (hc.fr _ _ _ hr hy) c1
    rw [hsm]
    rcases Nat.lt_or_ge i m with h2 | h2
    · have hwi := (hT.wf hk hwf i (by omega)).1
      have hidn : id < (Z i).next := by
        rcases Nat.lt_or_ge id (Z i).next with g | g
        · exact g
        · rw [hwi id g] at hcs; simp at hcs
      have := (hT.chain hk hwf hown hidn (m - i) (by omega) (fun j y g1 g2 hy => by
        by_cases hji : j = i
        · subst hji; rw [ho] at hy; simp only [Option.some.injEq] at hy; subst hy; exact .inr (.inl h1)
        · exact between j y hy hji (by omega)) cs).1 hcs
      rw [show i + (m - i) = m from by omega] at this
      exact this
    · have hidn : id < (Z m).next := by
        rw [← hsm]
        exact hbel x hx id (by rw [hops x hx]; exact hid)
      refine (hT.chain hk hwf hown hidn (i - m) (by omega) (fun j y g1 g2 hy => between j y hy (by omega) (by omega)) cs).2 ?_
      rw [show m + (i - m) = i from by omega]
      exact hcs
  have dstU : ∀ t, o.dst = some t → ∀ (k : Nat) (y : Oper), ops[k]? = some y → y.dst = some t → k = i := fun t hd k y hk hy => by
    by_cases hki : k = i
    · exact hki
    · exact absurd hd (hc.dst k i y o hki hk ho t hy)
  have final : ∀ t, o.dst = some t → E ops.size t = pv i := fun t hd => by
    have := hT.keep (t := t) (ops.size - (i + 1)) (i + 1) (fun k y g1 g2 hk hy => by have := dstU t hd k y hk hy; omega) (by omega)
    rw [show i + 1 + (ops.size - (i + 1)) = ops.size from by omega] at this
    rw [this, hput, hd, putE_eq]
  have mid : ∀ s', (∃ m', m' ≤ ops.size ∧ s' = Z m' ∧ ∀ (j : Nat) (x : Oper), ops[j]? = some x → cls K x ≠ 0 → cls K x ≠ 1 → ((S j ∨ j = i) ↔ j < m')) → Mid P K cf ops E Z (fun j => S j ∨ j = i) (putE e o.dst (pv i)) s' := by
    intro s' hs'
    refine ⟨fun k y hk hy ed he hb => ?_, fun k hk => hk.elim (h.inR k) (fun e => e ▸ hlt), fun k y t hk hy hd => ?_, fun t ht' => ?_, hs'⟩
    · rcases hk with hk | rfl
      · exact .inl (h.closed k y hk hy ed he hb)
      · rw [ho] at hy; simp only [Option.some.injEq] at hy; subst hy
        exact .inl (hpre ed he hb)
    · rcases hk with hk | rfl
      · have hne : o.dst ≠ some t := fun e => by have := dstU t e k y hy hd; subst this; exact hn hk
        rw [putE_ne hne]
        exact h.done k y t hk hy hd
      · rw [ho] at hy; simp only [Option.some.injEq] at hy; subst hy
        rw [hd, putE_eq, final t hd]
    · rw [putE_ne (ht' i o (.inr rfl) ho)]
      exact h.not t (fun k y hk hy => ht' k y (.inl hk) hy)
  cases b with
  | false =>
    refine ⟨false, s, hw', by simp, fun _ => ⟨(hf rfl).1, rfl⟩, mid s ?_⟩
    by_cases hq : cls K o = 0 ∨ cls K o = 1
    · refine ⟨m, hm, hsm, fun j x hx c0 c1 => ?_⟩
      rw [← hwm j x hx c0 c1]
      constructor
      · rintro (hs | rfl)
        · exact hs
        · exfalso; rw [ho] at hx; simp only [Option.some.injEq] at hx; subst hx; rcases hq with hq | hq
          · exact c0 hq
          · exact c1 hq
      · exact .inl
    · have c0 : cls K o ≠ 0 := fun e => hq (.inl e)
      have c1 : cls K o ≠ 1 := fun e => hq (.inr e)
      refine ⟨i + 1, by omega, by rw [(hf rfl).2]; exact hZ c0 c1, fun j x hx d0 d1 => ?_⟩
      constructor
      · rintro (hs | rfl)
        · rcases Nat.lt_or_ge j i with g | g
          · omega
          · by_cases hji : j = i
            · omega
            · exfalso
              rcases hc.pair i j o x (by omega) ho hx with hr | ⟨_, _, hr⟩
              · exact suc j hr hs
              · rcases hr with hr | hr | hr
                · exact cm_two c0 c1 d0 d1 hr
                · exact c1 (hc.fr _ _ _ hr ho)
                · exact d1 (hc.fr _ _ _ hr hx)
        · omega
      · intro hji
        by_cases hje : j = i
        · exact .inr hje
        · refine .inl ?_
          rcases hc.pair j i x o (by omega) hx ho with hr | ⟨_, _, hr⟩
          · exact pre j hr
          · exfalso
            rcases hr with hr | hr | hr
            · exact cm_two d0 d1 c0 c1 hr
            · exact d1 (hc.fr _ _ _ hr hx)
            · exact c1 (hc.fr _ _ _ hr ho)
  | true =>
    have hev := ht rfl
    by_cases h0 : cls K o = 0
    · obtain ⟨h1, h2⟩ := cls0 h0 hev
      refine ⟨true, s, hw', fun _ => by rw [evOp_congr hops]; exact h2 s, by simp, mid s ⟨m, hm, hsm, fun j x hx c0 c1 => ?_⟩⟩
      rw [← hwm j x hx c0 c1]
      constructor
      · rintro (hs | rfl)
        · exact hs
        · exfalso; rw [ho] at hx; simp only [Option.some.injEq] at hx; subst hx; exact c0 h0
      · exact .inl
    · by_cases h1 : cls K o = 1
      · refine ⟨true, s, hw', fun _ => by rw [evOp_congr hops]; exact hR h1 _ _ hev, by simp, mid s ⟨m, hm, hsm, fun j x hx c0 c1 => ?_⟩⟩
        rw [← hwm j x hx c0 c1]
        constructor
        · rintro (hs | rfl)
          · exact hs
          · exfalso; rw [ho] at hx; simp only [Option.some.injEq] at hx; subst hx; exact c1 h1
        · exact .inl
      · have hs := hZ h0 h1
        refine ⟨true, Z (i + 1), hw', fun _ => by rw [evOp_congr hops, hs, hev], by simp, mid _ ⟨i + 1, by omega, rfl, fun j x hx d0 d1 => ?_⟩⟩
        constructor
        · rintro (hs | rfl)
          · rcases Nat.lt_or_ge j i with g | g
            · omega
            · by_cases hji : j = i
              · omega
              · exfalso
                rcases hc.pair i j o x (by omega) ho hx with hr | ⟨_, _, hr⟩
                · exact suc j hr hs
                · rcases hr with hr | hr | hr
                  · exact cm_two h0 h1 d0 d1 hr
                  · exact h1 (hc.fr _ _ _ hr ho)
                  · exact d1 (hc.fr _ _ _ hr hx)
          · omega
        · intro hji
          by_cases hje : j = i
          · exact .inr hje
          · refine .inl ?_
            rcases hc.pair j i x o (by omega) hx ho with hr | ⟨_, _, hr⟩
            · exact pre j hr
            · exfalso
              rcases hr with hr | hr | hr
              · exact cm_two d0 d1 h0 h1 hr
              · exact d1 (hc.fr _ _ _ hr hx)
              · exact h1 (hc.fr _ _ _ hr ho)

theorem Mid.full {E : Nat → Env} {Z : Nat → Sto} {pv : Nat → PV} (hT : TextRun P K cf ops E Z pv) (hcf : CFpure K.wr cf) {S : Nat → Prop} {e : Env} {s : Sto} (h : Mid P K cf ops E Z S e s) (hall : ∀ i, i < ops.size → S i) : e = E ops.size ∧ s = Z ops.size := by
  have ltOf : ∀ {j : Nat} {x : Oper}, ops[j]? = some x → j < ops.size := fun {j x} hj => by
    rcases Nat.lt_or_ge j ops.size with h1 | h1
    · exact h1
    · rw [Array.getElem?_eq_none h1] at hj; simp at hj
  constructor
  · funext t
    by_cases hex : ∃ (j : Nat) (x : Oper), ops[j]? = some x ∧ x.dst = some t
    · obtain ⟨j, x, hx, hd⟩ := hex
      exact h.done j x t (hall j (ltOf hx)) hx hd
    · have hno : ∀ (k : Nat) (y : Oper), ops[k]? = some y → y.dst ≠ some t := fun k y hk hy => hex ⟨k, y, hk, hy⟩
      rw [h.not t (fun k y _ hk => hno k y hk)]
      have := hT.keep (t := t) ops.size 0 (fun k y _ _ hk => hno k y hk) (by omega)
      rw [Nat.zero_add] at this
      exact this.symm
  · obtain ⟨m, hm, hsm, hwm⟩ := h.sto
    rw [hsm]
    have := hT.keepZ hcf (ops.size - m) m (fun j x g1 g2 hx => by
      by_cases c0 : cls K x = 0
      · exact .inl c0
      · by_cases c1 : cls K x = 1
        · exact .inr c1
        · have := (hwm j x hx c0 c1).1 (hall j (ltOf hx)); omega) (by omega)
    rw [show m + (ops.size - m) = ops.size from by omega] at this
    exact this.symm

mutual
theorem Reads.ids {κ : Kr} : ∀ (p : PV) (v : Value), Reads κ v p → ∀ id, id ∈ topIds p → ∃ i, κ.inf id = some i
  | .ptr i o, v, h, id, hid => by
    simp only [topIds, List.mem_singleton] at hid
    subst hid
    cases h with
    | ptr id off i hi => exact ⟨i, hi⟩
  | .oslice i o n c z, v, h, id, hid => by
    simp only [topIds, List.mem_singleton] at hid
    subst hid
    cases h with
    | oslice id off n cap c z i hi hn hc hz => exact ⟨i, hi⟩
  | .fn f a b, v, h, id, hid => by
    simp only [topIds, List.mem_append] at hid
    cases h with
    | fn f us vs a b ha hb h1 h2 =>
      rcases hid with hid | hid
      · exact Reads.idsL a us ha h1 id hid
      · exact Reads.idsL b vs hb h2 id hid
  | .any, _, _, _, hid | .lit _, _, _, _, hid | .rptr _, _, _, _, hid | .slice _ _, _, _, _, hid | .agg _, _, _, _, hid | .tup _, _, _, _, hid | .map _, _, _, _, hid => by simp [topIds] at hid
theorem Reads.idsL {κ : Kr} : ∀ (l : List PV) (us : Array Value), us.size = l.length → (∀ (j : Nat) (v : Value) (p : PV), us[j]? = some v → l[j]? = some p → Reads κ v p) → ∀ id, id ∈ topL l → ∃ i, κ.inf id = some i
  | [], _, _, _, _, hid => by simp [topL] at hid
  | p :: ps, us, hs, h, id, hid => by
    simp only [topL, List.mem_append] at hid
    have hpos : 0 < us.size := by rw [hs]; simp
    rcases hid with hid | hid
    · exact Reads.ids p us[0] (h 0 _ p (by simp [hpos]) rfl) id hid
    · refine Reads.idsL ps (us.extract 1 us.size) (by simp [hs]) (fun j v q hv hq => ?_) id hid
      refine h (j + 1) v q ?_ (by simpa using hq)
      rw [Array.getElem?_extract] at hv
      split at hv
      · rw [Nat.add_comm]; exact hv
      · simp at hv
end
theorem RepF.ids_lt {e : Env} {s : Sto} {a : Act} {w : World} (h : RepF w0 nt κ e s a w) (x : Operand) {id : Nat} (hid : id ∈ topIds (evO e x)) : id < s.next := by
  obtain ⟨i, hi⟩ := Reads.ids _ _ (h.env.eval x) id hid
  exact h.rep.dom _ _ hi
theorem Rep.wf {s : Sto} {w : World} (h : Rep w0 κ s w) : wfS s := fun _ hid => h.fresh_get hid

theorem drawn_sound (hcf : CFok P cf) (hk : CFp K cf) (hc : CommOk K Fr ops) {E : Nat → Env} {Z : Nat → Sto} {pv : Nat → PV} (hT : TextRun P K cf ops E Z pv) (hwf : wfS (Z 0)) (hown : K.own = false → (Z 0).own = false) (hfr : FrOk Fr ops E Z) (hd : ∀ (i : Nat) (o : Oper), ops[i]? = some o → ∀ d, o.dst = some d → d < nt) (Q : Exit → Act → World → Prop) :
    ∀ (fuel : Nat) (listed : Array Bool) (S : Nat → Prop) (κ : Kr) (e : Env) (s : Sto) (a : Act) (w : World), listed.size = ops.size → (∀ i, i < ops.size → (listed[i]? = some true ↔ S i)) → Mid P K cf ops E Z S e s → RepF w0 nt κ e s a w → (ops.size ≤ fuel + (listed.toList.filter id).length) →
      (∀ κ' a' w', κ.le κ' → RepF w0 nt κ' (E ops.size) (Z ops.size) a' w' → Q .normal a' w') → wpAny P .any ops Q fuel listed a w := by
  have ltOf : ∀ {j : Nat} {x : Oper}, ops[j]? = some x → j < ops.size := fun {j x} hj => by
    rcases Nat.lt_or_ge j ops.size with h1 | h1
    · exact h1
    · rw [Array.getElem?_eq_none h1] at hj; simp at hj
  intro fuel
  -- nothing ready: all have run
  have done : ∀ (listed : Array Bool) (S : Nat → Prop) (κ : Kr) (e : Env) (s : Sto) (a : Act) (w : World), listed.size = ops.size → (∀ i, i < ops.size → (listed[i]? = some true ↔ S i)) → Mid P K cf ops E Z S e s → RepF w0 nt κ e s a w →
      (∀ κ' a' w', κ.le κ' → RepF w0 nt κ' (E ops.size) (Z ops.size) a' w' → Q .normal a' w') → Region.ready .any ops listed = [] → Q .normal a w := by
    intro listed S κ e s a w hls hlS hM hR hQ hre
    have hall : ∀ i, i < ops.size → S i := by
      intro i
      induction i using Nat.strongRecOn with
      | _ i ih =>
        intro hi
        by_cases hs : S i
        · exact hs
        · exfalso
          have hmem : i ∈ Region.ready .any ops listed := by
            unfold Region.ready
            rw [List.mem_filter]
            refine ⟨by simpa using hi, ?_⟩
            have hli : i < listed.size := by omega
            have hf : listed.getD i true = false := by
              have h1 := (hlS i hi)
              rw [Array.getD_eq_getD_getElem?]
              cases hb : listed[i]? with
              | none => rw [Array.getElem?_eq_none_iff] at hb; omega
              | some b =>
                cases b with
                | false => rfl
                | true => exact absurd (h1.1 hb) hs
            have hoi : ops[i]? = some ops[i] := by simp [hi]
            rw [hf, hoi]
            simp only [Bool.not_false, Bool.true_and, Option.map_some, Option.getD_some]
            rw [Array.all_eq_true']
            intro ed hed
            by_cases hb : Region.binds .any ed = true
            · have hlow := hc.low i _ hoi ed hed hb
              have hS := ih ed.on hlow (by omega)
              have h2 := (hlS ed.on (by omega)).2 hS
              simp [Array.getD_eq_getD_getElem?, h2]
            · simp [hb]
          rw [hre] at hmem
          simp at hmem
    obtain ⟨rfl, rfl⟩ := hM.full hT hk.pure hall
    exact hQ κ a w (Kr.le_refl κ) hR
  induction fuel with
  | zero =>
    intro listed S κ e s a w hls hlS hM hR hfu hQ
    have hall : ∀ i, i < ops.size → S i := by
      intro i hi
      have : (listed.toList.filter id).length = listed.toList.length := by
        have h1 := List.length_filter_le id listed.toList
        have h2 : listed.toList.length = ops.size := by simpa using hls
        omega
      have h2 := List.length_filter_eq_length_iff.1 this
      have hli : i < listed.size := by omega
      have h3 := h2 listed[i] (by simp)
      exact (hlS i hi).1 (by simp only [id] at h3; simp [hli, h3])
    have hre : Region.ready .any ops listed = [] := by
      rw [List.eq_nil_iff_forall_not_mem]
      intro i hi
      unfold Region.ready at hi
      rw [List.mem_filter] at hi
      obtain ⟨h1, h2⟩ := hi
      have hi' : i < ops.size := by simpa using h1
      have := (hlS i hi').2 (hall i hi')
      simp [Array.getD_eq_getD_getElem?, this] at h2
    exact ⟨hre, done listed S κ e s a w hls hlS hM hR hQ hre⟩
  | succ fuel ih =>
    intro listed S κ e s a w hls hlS hM hR hfu hQ
    refine ⟨done listed S κ e s a w hls hlS hM hR hQ, fun i hi => ?_⟩
    unfold Region.ready at hi
    rw [List.mem_filter] at hi
    obtain ⟨h1, h2⟩ := hi
    have hi' : i < ops.size := by simpa using h1
    have hli : i < listed.size := by omega
    have hoi : ops[i]? = some ops[i] := by simp [hi']
    rw [hoi] at h2
    simp only [Option.map_some, Option.getD_some, Bool.and_eq_true, Bool.not_eq_true'] at h2
    obtain ⟨h3, h4⟩ := h2
    have hnl : listed[i]? = some false := by
      rw [Array.getD_eq_getD_getElem?] at h3
      cases hb : listed[i]? with
      | none => rw [Array.getElem?_eq_none_iff] at hb; omega
      | some b => rw [hb] at h3; simp at h3; rw [h3]
    have hnS : ¬ S i := fun hs => by have := (hlS i hi').2 hs; rw [hnl] at this; simp at this
    rw [Array.all_eq_true'] at h4
    have hpre : ∀ ed, ed ∈ (ops[i]).after → Region.binds .any ed = true → S ed.on := by
      intro ed hed hb
      have := h4 ed hed
      rw [hb] at this
      simp only [Bool.not_true, Bool.false_or] at this
      have hlow := hc.low i _ hoi ed hed hb
      refine (hlS ed.on (by omega)).1 ?_
      rw [Array.getD_eq_getD_getElem?] at this
      cases hb2 : listed[ed.on]? with
      | none => rw [hb2] at this; simp at this
      | some b => rw [hb2] at this; simp at this; rw [this]
    obtain ⟨b, s', g1, g2, g3, g4⟩ := hM.next hT hc hk hwf hown hfr hoi hnS (fun x _ id hid => hR.ids_lt x hid) hpre
    have hls' : (listed.setIfInBounds i true).size = ops.size := by simpa using hls
    have hlS' : ∀ k, k < ops.size → ((listed.setIfInBounds i true)[k]? = some true ↔ (S k ∨ k = i)) := by
      intro k hk
      rw [Array.getElem?_setIfInBounds]
      by_cases hik : i = k
      · subst hik
        simp [hli]
      · rw [if_neg hik, hlS k hk]
        constructor
        · exact .inl
        · rintro (h | h)
          · exact h
          · exact absurd h.symm hik
    have hcnt : (listed.toList.filter id).length + 1 = ((listed.setIfInBounds i true).toList.filter id).length := by
      rw [Array.toList_setIfInBounds]
      have gen : ∀ (l : List Bool) (k : Nat), l[k]? = some false → (l.filter id).length + 1 = ((l.set k true).filter id).length := by
        intro l
        induction l with
        | nil => intro k hk; simp at hk
        | cons x l ihl =>
          intro k hk
          cases k with
          | zero =>
            simp only [List.getElem?_cons_zero, Option.some.injEq] at hk
            subst hk
            simp
          | succ k =>
            simp only [List.getElem?_cons_succ] at hk
            have := ihl k hk
            cases x <;> simp [this]
      exact gen listed.toList i (by simpa using hnl)
    unfold wpOp
    rw [hoi]
    simp only
    rw [wanted_sound hR.env g1]
    cases b with
    | true =>
      simp only [if_true]
      refine .inl (evOp_sound hcf hR (hd i _ hoi) (g2 rfl) (fun κ' a' w' hk h' => ?_))
      exact ih _ _ κ' _ _ a' w' hls' hlS' g4 h' (by omega) (fun κ2 a2 w2 hk2 => hQ κ2 a2 w2 (Kr.le_trans hk hk2))
    | false =>
      simp only [Bool.false_eq_true, if_false]
      obtain ⟨g5, rfl⟩ := g3 rfl
      rw [g5] at g4
      exact ih _ _ κ _ _ _ w hls' hlS' g4 (hR.put (Kr.le_refl κ) hR.rep (hd i _ hoi) (.lit undef)) (by omega) hQ
end
end Go.Pv
