import Derived.Test.YtccjfglhoghbpaaPvSim
import Derived.Laws.Externs
namespace Go.Pv
open Go Go.RowKit

section
variable {P : Program} {L : Lb} {w0 : Base} {κ : Kr} {s : Sto} {w : World}

/-- A body gone through in the caller's store comes to this. -/
theorem calls_of_W (hL : LbOk P L) {g : FuncId} {fn : Func} {c : Code} (hok : L.ok g = true) (h1 : P.funcs[g]? = some fn) (h2 : fn.body = some c) {args ps : List PV} {s1 : Sto} {vs : Array Value} (o : Bool) (ho : o = true → L.own g = true)
    (h : W P L c (fun x e s' => match x with
      | .normal => resultsE P e s' fn.results.toList = some ps ∧ s' = s1
      | .ret => resultsE P e s' fn.results.toList = some ps ∧ s' = s1
      | _ => False) (initEnv args) (s.flag o)) (hR : Rep w0 κ s w) (hA : ReadsA κ vs args) :
    (∃ fn c, P.funcs[g]? = some fn ∧ fn.body = some c ∧ fn.name ≠ "runtime.NumGoroutine") ∧
    Calls P g vs w fun en w' => ∃ v κ', en = .returned v ∧ κ.le κ' ∧ Reads κ' v (resultOf ps) ∧ Rep w0 κ' s1 w' := by
  obtain ⟨fn', c', h1', h2', h3, h4⟩ := hL.ok g hok
  rw [h1] at h1'
  simp only [Option.some.injEq] at h1'
  subst h1'
  rw [h2] at h2'
  simp only [Option.some.injEq] at h2'
  subst h2'
  refine ⟨⟨fn, c, h1, h2, h3⟩, ?_⟩
  obtain ⟨k, x, e, s', hev, hq⟩ := W_sound _ _ _ _ h
  have hRF : RepF w0 fn.ntmps κ (initEnv args) (s.flag o) { tmps := vs ++ Array.replicate (fn.ntmps - vs.size) undef, defers := [] } w :=
    ⟨initEnv_reads hA _, hR.flag _, by simp; omega, rfl⟩
  have hw := (sound hL k).1 (L.own g) w0 fn.ntmps c _ _ x e s' κ _ w hev h4 (fun hf => by
    cases o with
    | false => rfl
    | true => rw [ho rfl] at hf; simp at hf) hRF
  refine calls_of_wp h1 h2 (wp_mono hw ?_)
  intro ex a1 w1 ⟨hx1, κ1, hk, hR1⟩
  have fin : resultsE P e s' fn.results.toList = some ps → s' = s1 → a1.defers = [] ∧ ∃ v, (results fn a1.tmps).run P w1 = .ok v w1 ∧ ∃ v' κ', Ending.returned v = .returned v' ∧ κ.le κ' ∧ Reads κ' v' (resultOf ps) ∧ Rep w0 κ' s1 w1 := by
    rintro hr rfl
    obtain ⟨v, h5, h6, _⟩ := results_one hR1 hr
    exact ⟨hR1.defers, v, h5, v, κ1, rfl, hk, h6, hR1.rep⟩
  subst hx1
  cases x with
  | normal => exact fin hq.1 hq.2
  | ret => exact fin hq.1 hq.2
  | exit id => exact hq.elim
  | goto l => exact hq.elim

/-- A row of one's own, given away: it stands from here on. -/
theorem Rep.give (h : Rep w0 κ s w) {id off n z : Nat} {c : Option Nat} {t : Option TypeId} {v : Value} {q : PV} (hv : Reads κ v (.oslice id off n c z)) (hq : frz1 P s t (.oslice id off n c z) = some q) {s2 : Sto} (hn : s.next ≤ s2.next) (hs : ∀ j b, s2.get j = some b → j ≠ id ∧ s.get j = some b) :
    ∃ κ', κ.le κ' ∧ Reads κ' v q ∧ Rep w0 κ' s2 w := by
  have hlive : ∃ cs, s.get id = some (.cells cs) := by
    simp only [frz1] at hq
    split at hq
    · split at hq
      · split at hq
        · rename_i hcs
          unfold ownCells at hcs
          split at hcs
          · exact ⟨_, by assumption⟩
          · simp at hcs
        · simp at hq
      · simp at hq
    · simp at hq
  obtain ⟨cs, hcs⟩ := hlive
  obtain ⟨f, cap, hf, hveq, hcap, hc, _⟩ := oslice_inv hv
  let Φ' : Addr → Option Value := fun a => if a.block = f.blk then w.cell? a else κ.Φ a
  let κ' : Kr := ⟨Φ', κ.inf⟩
  have hkeep : ∀ a u, κ.Φ a = some u → Φ' a = some u := fun a u hu => by
    show (if a.block = f.blk then w.cell? a else κ.Φ a) = some u
    split
    · exact h.phi a u hu
    · exact hu
  have hk : κ.le κ' := ⟨hkeep, fun _ _ hi => hi⟩
  obtain ⟨hb1, hb2⟩ := h.see hcs hf
  refine ⟨κ', hk, ?_, ?_⟩
  · let s3 : Sto := ⟨s.next, fun j => if j = id then s.get j else none, s.own⟩
    have h3 : Rep w0 κ s3 w := h.forget rfl (fun j b hj => by
      simp only [s3] at hj
      split at hj
      · exact hj
      · simp at hj)
    have hq3 : frz1 P s3 t (.oslice id off n c z) = some q := by
      rw [← hq]
      simp only [frz1, ownCells, s3, if_true]
    have := frz1_sound (Φ' := Φ') h3 hkeep (fun j i b hj hi a u ha hu => by
      simp only [s3] at hj
      split at hj
      · rename_i he
        subst he
        rw [hf] at hi
        simp only [Option.some.injEq] at hi
        subst hi
        show (if a.block = f.blk then w.cell? a else κ.Φ a) = some u
        rw [if_pos ha]
        exact hu
      · simp at hj) hv hq3
    exact Reads.mono (κ := kap Φ') (κ' := κ') ⟨fun _ _ h => h, fun _ _ h => by cases h⟩ this
  · refine ⟨h.below, fun a u hu => ?_, fun a u hu => ?_, fun j i hi => Nat.lt_of_lt_of_le (h.dom j i hi) hn, fun j b hj => ?_, fun j j' b b' i i' hj hj' => h.inj j j' b b' i i' (hs j b hj).2 (hs j' b' hj').2⟩
    · have hu' : (if a.block = f.blk then w.cell? a else κ.Φ a) = some u := hu
      split at hu'
      · rename_i ha
        exact .inl (by rw [ha]; exact hb1)
      · exact h.old a u hu'
    · have hu' : (if a.block = f.blk then w.cell? a else κ.Φ a) = some u := hu
      split at hu'
      · exact hu'
      · exact h.phi a u hu'
    · obtain ⟨hne, hg⟩ := hs j b hj
      obtain ⟨i, g1, g2, g3⟩ := h.box j b hg
      refine ⟨i, g1, g2, g3.mono hk rfl (fun a ha hn => ?_)⟩
      show (if a.block = f.blk then w.cell? a else κ.Φ a) = none
      rw [if_neg ?_]
      · exact hn
      · intro he
        exact hne (h.inj j id b _ i f hg hcs g1 hf (by rw [← ha, he]))

/-! ### slices.overlaps: what is given and what is one's own lie apart -/
def tOver (args : List PV) (s : Sto) : Option (PV × Sto) := match args with
  | [.slice es _, .oslice id _ _ _ _] => match s.get id with
    | some (.cells _) => if es.all (fun e => decide (0 < e.cells.length)) = true then some (.lit (.bool false), s) else none
    | _ => none
  | _ => none
theorem tOver_ok {g : FuncId} {fn : Func} (hf : P.funcs[g]? = some fn) (hname : (fn.name == "runtime.NumGoroutine") = false) (hb : fn.body.isNone = true) (hn : Extern.findNext fn = none) {tS tR el : TypeId} (he : Extern.find fn = some (Extern.SlicesOverlaps.overlaps #[tS, tS] #[tR]))
    (hd : P.underlying tS = some (.slice el)) {i : TypeInfo} (hi : P.info? el = some i) (L0 : Nat) (hsz : i.size = L0) : CFok P (fun g' args s => if g' = g then tOver args s else none) := by
  intro w0 κ s w g' args r s' vs h hR hA
  simp only at h
  split at h
  · rename_i hg
    subst hg
    right
    unfold tOver at h
    split at h
    · rename_i es gr id off n c z
      split at h
      · rename_i cs hcs
        split at h
        case isFalse => simp at h
        rename_i hall
        simp only [Option.some.injEq, Prod.mk.injEq] at h
        obtain ⟨rfl, rfl⟩ := h
        have hs2 : vs.size = 2 := hA.1
        obtain ⟨v0, v1, rfl⟩ : ∃ v0 v1, vs = #[v0, v1] := by
          obtain ⟨l⟩ := vs
          match l, hs2 with
          | [v0, v1], _ => exact ⟨v0, v1, rfl⟩
        have r0 := hA.2 0 v0 _ rfl rfl
        have r1 := hA.2 1 v1 _ rfl rfl
        obtain ⟨A, cap, sz, ad, u, rfl, hn0, hA0, hg0, hsz0, hΦ0, hr0⟩ := slice_inv r0
        obtain ⟨f, cap1, hf1, rfl, hn1, _⟩ := oslice_inv r1
        refine ⟨_, κ, w, ?_, Kr.le_refl κ, .lit (.bool false), hR⟩
        rw [run_callFunc_extern hf hname hb hn he]
        obtain ⟨hb1, arr, el', harr, hrd, hnone, _⟩ := hR.see hcs hf1
        change ((Sem.run P (α := Value) (do
          let some t := (#[tS, tS] : Array TypeId)[0]? | stuck "slices.overlaps: no parameter types"
          let .slice elem ← underlying t | stuck "slices.overlaps: slice type expected"
          let size ← sizeOf elem
          match A, (some (⟨f.blk, off, none⟩ : Addr)) with
          | some a, some b =>
            if es.length = 0 ∨ n = 0 ∨ size = 0 then pure (Value.bool false)
            else if a.block != b.block && (← frozen a) && (← frozen b) then unsupported .addressObserved
            else do
              if a.block != b.block then do
                noView a; noView b
                if ← mayBeOne a b then return Value.bool ((← choose (.extern "sameAddr.stringBytes" 2)) == 1)
              pure (Value.bool (a.block == b.block && a.off < b.off + n * size && b.off < a.off + es.length * size))
          | _, _ => pure (Value.bool false)) w).andThen fun v w' => Result.ok (Next.value v) w') = _
        cases A with
        | none => simp [run_underlying hd, run_sizeOf hi]
        | some a =>
          by_cases h0 : es.length = 0 ∨ n = 0 ∨ i.size = 0
          · simp only [run_underlying hd, run_sizeOf hi, Sem.run_bind, Sem.run_pure, Result.andThen_ok, List.getElem?_toArray, List.getElem?_cons_zero, if_pos h0]
          · have hne : es ≠ [] := fun e => h0 (.inl (by rw [e]; rfl))
            have hpos : 0 < sz := by
              obtain ⟨e, es', rfl⟩ := List.exists_cons_of_ne_nil hne
              rw [← hsz0 e (by simp)]
              exact of_decide_eq_true (List.all_eq_true.1 hall e (List.mem_cons_self ..))
            have ha : a = ad := by simpa using hA0 hne
            subst ha
            have hl : 0 < es.length := List.length_pos_iff.2 hne
            have hc0 := hR.phi _ _ (hΦ0 0 (Nat.mul_pos hl hpos))
            have hbk : (a.add 0).block = a.block := by cases a; rfl
            have hne2 : a.block ≠ f.blk := by
              intro heq
              have := hnone (a.add 0) (by rw [hbk, heq])
              rw [hΦ0 0 (Nat.mul_pos hl hpos)] at this
              simp at this
            obtain ⟨elA, kA, hsa⟩ : ∃ elA kA, w.shape? a.block = some (elA, kA + 1) := by
              unfold World.cell? at hc0
              rw [hbk] at hc0
              unfold World.shape?
              split at hc0
              · rename_i cA eA fA hA2
                split at hc0
                · simp at hc0
                · have hlt : 0 < cA.size := by
                    rcases Nat.eq_zero_or_pos cA.size with h5 | h5
                    · rw [Array.getElem?_eq_none (by omega)] at hc0
                      simp at hc0
                    · exact h5
                  exact ⟨eA, cA.size - 1, by simp only [Option.some.injEq, Prod.mk.injEq, true_and]; omega⟩
              · simp at hc0
            have hsb : w.shape? f.blk = some (el', arr.size) := by simp [World.shape?, harr]
            have hfb : ∀ o, w.frozen? ⟨f.blk, o, none⟩ = false := fun o => by simp [World.frozen?, harr]
            have hnb : (a.block != f.blk) = true := by simpa using hne2
            have hnb' : (a.block == f.blk) = false := by simpa using hne2
            cases hfa : w.frozen? a <;> cases hfe : w.frozen? { block := a.block, off := kA + 1 } <;>
              simp [run_underlying hd, run_sizeOf hi, h0, hnb, hnb', frozen, noView, viewAt, mayBeOne, stringish, shape, Sem.run, hsa, hsb, hfb, hfa, hfe]
      · simp at h
    · simp at h
  · simp at h
/-! ### Rows that are taken in hand -/
theorem Rep.widen (h : Rep w0 κ s w) {id m : Nat} {cs : List PV} {f : Inf} (hb : s.get id = some (.cells cs)) (hf : κ.inf id = some f) (hm : m ≤ f.csz) : Rep w0 κ (s.set id (some (.cells (cs ++ List.replicate (m - cs.length) .any)))) w := by
  refine ⟨h.below, h.old, h.phi, h.dom, fun j b hj => ?_, fun j j' b b' i i' hj hj' => ?_⟩
  · simp only [Sto.set] at hj
    split at hj
    · rename_i e
      subst e
      simp only [Option.some.injEq] at hj
      subst hj
      obtain ⟨h1, arr, el, h2, h3, h4, h5⟩ := h.see hb hf
      refine ⟨f, hf, h1, arr, el, h2, ⟨?_, fun j v q hv hq => ?_⟩, h4, h5⟩
      · have := h3.1
        simp
        omega
      · by_cases hlt : j < cs.length
        · rw [List.getElem?_append_left hlt] at hq
          exact h3.2 j v q hv hq
        · rw [List.getElem?_append_right (by omega)] at hq
          have := List.mem_of_getElem? hq
          rw [List.mem_replicate] at this
          rw [this.2]
          exact .any _
    · exact h.box j b hj
  · have g : ∀ {j b}, (s.set id (some (.cells (cs ++ List.replicate (m - cs.length) .any)))).get j = some b → ∃ b', s.get j = some b' := by
      intro j b hj
      simp only [Sto.set] at hj
      split at hj
      · rename_i e; exact ⟨_, e ▸ hb⟩
      · exact ⟨_, hj⟩
    obtain ⟨b1, g1⟩ := g hj
    obtain ⟨b2, g2⟩ := g hj'
    exact h.inj j j' b1 b2 i i' g1 g2

theorem writeAt_eq : ∀ (xs cs : List PV) (off : Nat), off + xs.length ≤ cs.length → writeAt cs off xs = cs.take off ++ xs ++ cs.drop (off + xs.length)
  | [], cs, off, _ => by simp [writeAt]
  | x :: xs, cs, off, h => by
    simp only [List.length_cons] at h
    rw [writeAt, writeAt_eq xs (cs.set off x) (off + 1) (by simp; omega)]
    have h1 : (cs.set off x).take (off + 1) = cs.take off ++ [x] := by
      rw [List.take_set]
      apply List.ext_getElem?
      intro j
      rw [List.getElem?_set, List.getElem?_append]
      simp only [List.length_take, List.getElem?_take]
      by_cases hj : off = j
      · subst hj
        have e : min off cs.length = off := by omega
        rw [if_pos rfl, if_pos (by omega), e, if_neg (by omega)]
        simp
      · rw [if_neg hj]
        by_cases hj2 : j < off
        · rw [if_pos (by omega), if_pos (by omega), if_pos hj2]
        · rw [if_neg (by omega), if_neg (by omega), List.getElem?_eq_none (by simp; omega)]
    have h2 : (cs.set off x).drop (off + 1 + xs.length) = cs.drop (off + (xs.length + 1)) := by
      rw [List.drop_set_of_lt (by omega)]
      congr 1
      omega
    rw [h1, h2]
    simp
theorem writeAt_length (xs cs : List PV) (off : Nat) (h : off + xs.length ≤ cs.length) : (writeAt cs off xs).length = cs.length := by
  rw [writeAt_eq xs cs off h]
  simp
  omega

/-- What comes of slices.Insert: the cells, one element more. -/
def insC (n : Nat) (cs xs : List PV) (i : Nat) : List PV := cs.take (i * n) ++ xs ++ cs.drop (i * n)
def tIns (P : Program) (t : TypeId) (n m : Nat) (args : List PV) (s : Sto) : Option (PV × Sto) := match args with
  | [.oslice id 0 k _ z, .lit (.int .i64 i), .slice [x] _] => match s.get id with
    | some (.cells cs) => if z = n ∧ cs.length = k * n ∧ 0 ≤ i ∧ i.toNat ≤ k ∧ x.cells.length = n ∧ cs.all PV.solid = true ∧ x.cells.all PV.solid = true ∧ (k + 1) * m ≤ 140737488355328 then
        (frz1 P ⟨1, fun _ => some (.cells (insC n cs x.cells i.toNat)), false⟩ (some t) (.oslice 0 0 (k + 1) none n)).map fun q => (q, ⟨s.next + 1, (s.set id none).get, s.own⟩)
      else none
    | _ => none
  | [.slice [] .full, .lit (.int .i64 i), .slice [x] _] => if i = 0 ∧ x.cells.length = n ∧ x.cells.all PV.solid = true ∧ m ≤ 140737488355328 then
        (frz1 P ⟨1, fun _ => some (.cells x.cells), false⟩ (some t) (.oslice 0 0 1 none n)).map fun q => (q, ⟨s.next + 1, s.get, s.own⟩)
      else none
  | _ => none
theorem frz1_cells {t : TypeId} {g : Bool} {n : Nat} (h : efl P t = some (g, n)) {s s' : Sto} {id off id' off' k z z' : Nat} {c c' : Option Nat} (he : ownCells s id off (k * n) = ownCells s' id' off' (k * n)) : frz1 P s (some t) (.oslice id off k c z) = frz1 P s' (some t) (.oslice id' off' k c' z') := by
  rw [frz1_O h, frz1_O h, he]
theorem ownCells_of {s : Sto} {id off k : Nat} {cs : List PV} (h : s.get id = some (.cells cs)) (hl : off + k ≤ cs.length) : ownCells s id off k = some ((cs.drop off).take k) := by
  simp [ownCells, h, hl]
theorem ownWrite_of {s : Sto} {id off : Nat} {cs xs : List PV} (h : s.get id = some (.cells cs)) (hs : xs.all PV.solid = true) (hl : off + xs.length ≤ cs.length) : ownWrite s id off xs = some (s.set id (some (.cells (writeAt cs off xs)))) := by
  unfold ownWrite
  rw [h]
  simp only
  rw [if_pos ⟨hs, hl⟩]

/-- What the body of slices.Insert comes to, room known. -/
def InsRun (P : Program) (L : Lb) (c : Code) (rs : List ResultVar) (n m : Nat) : Prop := ∀ (s : Sto) (id k cap : Nat) (cs : List PV) (x : PV) (gr : Grow) (i : Nat), s.get id = some (.cells cs) → id < s.next → cs.length = cap * n → k ≤ cap → (cs.take (k * n)).all PV.solid = true → i ≤ k → x.cells.length = n → x.cells.all PV.solid = true → (k + 1) * m ≤ 140737488355328 →
  ∃ (id' off' : Nat) (c' : Option Nat) (z' : Nat) (s1 : Sto), W P L c (fun x e s' => match x with
      | .normal => resultsE P e s' rs = some [.oslice id' off' (k + 1) c' z'] ∧ s' = s1
      | .ret => resultsE P e s' rs = some [.oslice id' off' (k + 1) c' z'] ∧ s' = s1
      | _ => False) (initEnv [.oslice id 0 k (some cap) n, .lit (.int .i64 i), .slice [x] gr]) (s.flag true) ∧
    ownCells s1 id' off' ((k + 1) * n) = some (insC n (cs.take (k * n)) x.cells i) ∧ s.next ≤ s1.next ∧ s1.next ≤ s.next + 1 ∧ (∀ j, j ≠ id → j < s.next → s1.get j = s.get j) ∧ (id' = id ∨ id' = s.next)
def InsRun0 (P : Program) (L : Lb) (c : Code) (rs : List ResultVar) (n m : Nat) : Prop := ∀ (s : Sto) (x : PV) (gr : Grow), x.cells.length = n → x.cells.all PV.solid = true → m ≤ 140737488355328 →
  ∃ (c' : Option Nat) (z' : Nat), W P L c (fun y e s' => match y with
      | .normal => resultsE P e s' rs = some [.oslice s.next 0 1 c' z'] ∧ s' = (s.flag true).push (.cells x.cells)
      | .ret => resultsE P e s' rs = some [.oslice s.next 0 1 c' z'] ∧ s' = (s.flag true).push (.cells x.cells)
      | _ => False) (initEnv [.slice [] .full, .lit (.int .i64 0), .slice [x] gr]) (s.flag true)
theorem tIns_ok (hL : LbOk P L) {g : FuncId} {fn : Func} {c : Code} (hok : L.ok g = true) (hown : L.own g = true) (h1 : P.funcs[g]? = some fn) (h2 : fn.body = some c) {t : TypeId} {gg : Bool} {n m : Nat} (hefl : efl P t = some (gg, n)) (hn0 : 0 < n) (run : InsRun P L c fn.results.toList n m) (run0 : InsRun0 P L c fn.results.toList n m) :
    CFok P (fun g' args s => if g' = g then tIns P t n m args s else none) := by
  intro w0 κ s w g' args r s' vs h hR hA
  simp only at h
  split at h
  case isFalse => simp at h
  rename_i hg
  subst hg
  left
  unfold tIns at h
  split at h
  · rename_i id k cc z i x gr
    split at h
    · rename_i cs hcs
      split at h
      case isFalse => simp at h
      rename_i hc
      obtain ⟨rfl, hcl, hi0, hik, hxl, hsol, hxs, hm⟩ := hc
      simp only [Option.map_eq_some_iff, Prod.mk.injEq] at h
      obtain ⟨q, hq, rfl, rfl⟩ := h
      have hs3 : vs.size = 3 := hA.1
      obtain ⟨v0, v1, v2, rfl⟩ : ∃ v0 v1 v2, vs = #[v0, v1, v2] := by
        obtain ⟨l⟩ := vs
        match l, hs3 with
        | [v0, v1, v2], _ => exact ⟨v0, v1, v2, rfl⟩
      have r0 := hA.2 0 v0 _ rfl rfl
      have r1 := hA.2 1 v1 _ rfl rfl
      have r2 := hA.2 2 v2 _ rfl rfl
      obtain ⟨f, cap, hf, rfl, hkc, hcc, hz⟩ := oslice_inv r0
      have hz2 : cap * z ≤ f.csz := by rcases hz with h | h <;> omega
      have hid : id < s.next := hR.dom id f hf
      let cs' := cs ++ List.replicate (cap * z - cs.length) PV.any
      have hW := hR.widen hcs hf hz2
      have hkz : k * z ≤ cap * z := Nat.mul_le_mul_right _ hkc
      have hlen' : cs'.length = cap * z := by simp [cs']; omega
      have htk : cs'.take (k * z) = cs := by simp only [cs']; rw [← hcl]; exact List.take_left' rfl
      have hget : (s.set id (some (.cells cs'))).get id = some (.cells cs') := by simp [Sto.set]
      obtain ⟨id', off', c', z', s1, hw, hoc, hn1, hn2, hkeep, hid'⟩ := run (s.set id (some (.cells cs'))) id k cap cs' x gr i.toNat hget hid hlen' hkc (by rw [htk]; exact hsol) hik hxl hxs hm
      have hi : ((i.toNat : Nat) : Int) = i := by omega
      rw [hi] at hw
      have hA' : ReadsA κ #[Value.slice (some ⟨f.blk, 0, none⟩) k cap, v1, v2] [.oslice id 0 k (some cap) z, .lit (.int .i64 i), .slice [x] gr] := ⟨rfl, fun j v p hv hp => by
        match j with
        | 0 =>
          simp at hv hp; subst hv; subst hp
          exact .oslice id 0 k cap (some cap) z f hf hkc (fun _ h => by simpa using h) hz
        | 1 => simp at hv hp; subst hv; subst hp; exact r1
        | 2 => simp at hv hp; subst hv; subst hp; exact r2
        | j + 3 => simp at hv⟩
      obtain ⟨h3, h4⟩ := calls_of_W hL hok h1 h2 true (fun _ => hown) hw hW hA'
      refine ⟨h3, h4.mono ?_⟩
      rintro en w' ⟨v, κ', e1, e2, e3, e4⟩
      have hq' : frz1 P s1 (some t) (.oslice id' off' (k + 1) c' z') = some q := by
        rw [← hq]
        refine frz1_cells hefl ?_
        have hl3 : (insC z cs x.cells i.toNat).length = (k + 1) * z := by
          have : i.toNat * z ≤ k * z := Nat.mul_le_mul_right _ hik
          simp only [insC, List.length_append, List.length_take, List.length_drop, hxl, hcl, Nat.add_mul, Nat.one_mul]
          omega
        rw [hoc, htk]
        simp only [ownCells, hl3, Nat.zero_add, Nat.le_refl, if_true, List.drop_zero]
        rw [← hl3, List.take_length]
      obtain ⟨κ2, k1, k2, k3⟩ := e4.give (s2 := ⟨s.next + 1, (s.set id none).get, s.own⟩) e3 hq' hn2 (fun j b hj => by
        simp only [Sto.set] at hj
        split at hj
        · simp at hj
        · rename_i hne
          obtain ⟨i', hi', _⟩ := hR.box j b hj
          have hlt := hR.dom j i' hi'
          refine ⟨fun e => ?_, ?_⟩
          · subst e
            rcases hid' with h | h
            · exact hne h
            · simp only [Sto.set] at h; omega
          · rw [hkeep j hne hlt]
            simp only [Sto.set, hne, if_false]
            exact hj)
      exact ⟨v, κ2, e1, Kr.le_trans e2 k1, k2, k3⟩
    · simp at h
  · rename_i i x gr
    split at h
    case isFalse => simp at h
    rename_i hc
    obtain ⟨rfl, hxl, hxs, hm⟩ := hc
    simp only [Option.map_eq_some_iff, Prod.mk.injEq] at h
    obtain ⟨q, hq, rfl, rfl⟩ := h
    obtain ⟨c', z', hw⟩ := run0 s x gr hxl hxs hm
    obtain ⟨h3, h4⟩ := calls_of_W hL hok h1 h2 true (fun _ => hown) hw hR hA
    refine ⟨h3, h4.mono ?_⟩
    rintro en w' ⟨v, κ', e1, e2, e3, e4⟩
    have hq' : frz1 P ((s.flag true).push (.cells x.cells)) (some t) (.oslice s.next 0 1 c' z') = some q := by
      rw [← hq]
      refine frz1_cells hefl ?_
      simp [ownCells, Sto.push, Sto.flag]
    obtain ⟨κ2, k1, k2, k3⟩ := e4.give (s2 := ⟨s.next + 1, s.get, s.own⟩) e3 hq' (Nat.le_refl _) (fun j b hj => by
      simp only at hj
      obtain ⟨i', hi', _⟩ := hR.box j b hj
      have hlt := hR.dom j i' hi'
      have hne : j ≠ s.next := by omega
      refine ⟨hne, ?_⟩
      show (if j = s.next then _ else s.get j) = some b
      rw [if_neg hne]
      exact hj)
    exact ⟨v, κ2, e1, Kr.le_trans e2 k1, k2, k3⟩
  · simp at h

/-! ### slices.Clone: a row of one's own -/
def tClone (n m : Nat) (args : List PV) (s : Sto) : Option (PV × Sto) := match args with
  | [.slice [] _] => some (.slice [] .full, s)
  | [.slice (x :: xs) _] => if elemsOk n (x :: xs) = true ∧ (x :: xs).length * m ≤ 140737488355328 then some (.oslice s.next 0 (x :: xs).length none n, s.push (.cells (flat (x :: xs)))) else none
  | _ => none
def CloneRun (P : Program) (L : Lb) (c : Code) (rs : List ResultVar) (n m : Nat) : Prop := (∀ (s : Sto) (gr : Grow), gr = .nil ∨ gr = .ex → W P L c (fun x e s' => match x with
      | .normal => resultsE P e s' rs = some [.slice [] .full] ∧ s' = s.flag true
      | .ret => resultsE P e s' rs = some [.slice [] .full] ∧ s' = s.flag true
      | _ => False) (initEnv [.slice [] gr]) (s.flag true)) ∧
  ∀ (s : Sto) (x : PV) (xs : List PV), elemsOk n (x :: xs) = true → (xs.length + 1) * m ≤ 140737488355328 → W P L c (fun y e s' => match y with
      | .normal => resultsE P e s' rs = some [.oslice s.next 0 (xs.length + 1) none n] ∧ s' = (s.flag true).push (.cells (flat (x :: xs)))
      | .ret => resultsE P e s' rs = some [.oslice s.next 0 (xs.length + 1) none n] ∧ s' = (s.flag true).push (.cells (flat (x :: xs)))
      | _ => False) (initEnv [.slice (x :: xs) .ex]) (s.flag true)
theorem tClone_ok (hL : LbOk P L) {g : FuncId} {fn : Func} {c : Code} (hok : L.ok g = true) (hown : L.own g = true) (h1 : P.funcs[g]? = some fn) (h2 : fn.body = some c) {n m : Nat} (run : CloneRun P L c fn.results.toList n m) :
    CFok P (fun g' args s => if g' = g then tClone n m args s else none) := by
  intro w0 κ s w g' args r s' vs h hR hA
  simp only at h
  split at h
  case isFalse => simp at h
  rename_i hg
  subst hg
  left
  unfold tClone at h
  have one : ∀ {p : PV}, ReadsA κ vs [p] → ∃ v, vs = #[v] ∧ Reads κ v p := fun hA => by
    have hs1 : vs.size = 1 := hA.1
    obtain ⟨l⟩ := vs
    match l, hs1 with
    | [v], _ => exact ⟨v, rfl, hA.2 0 v _ rfl rfl⟩
  split at h
  · rename_i gr
    simp only [Option.some.injEq, Prod.mk.injEq] at h
    obtain ⟨rfl, rfl⟩ := h
    obtain ⟨v, rfl, hv⟩ := one hA
    obtain ⟨A, cap, sz, ad, u, rfl, hn, hA0, hg, hsz, hΦ, hr⟩ := slice_inv hv
    obtain ⟨gr', hgr, hv'⟩ : ∃ gr', (gr' = .nil ∨ gr' = .ex) ∧ Reads κ (.slice A ([] : List PV).length cap) (.slice [] gr') := by
      cases A with
      | none => exact ⟨.nil, .inl rfl, .slice none [] cap sz .nil ad u hn hA0 rfl hsz hΦ hr⟩
      | some a => exact ⟨.ex, .inr rfl, .slice (some a) [] cap sz .ex ad u hn hA0 ⟨a, rfl⟩ hsz hΦ hr⟩
    obtain ⟨h3, h4⟩ := calls_of_W (vs := #[Value.slice A ([] : List PV).length cap]) (args := [.slice [] gr']) hL hok h1 h2 true (fun _ => hown) (run.1 s gr' hgr) hR ⟨rfl, fun j v p hv hp => by
      match j with
      | 0 => simp at hv hp; subst hv; subst hp; exact hv'
      | j + 1 => simp at hv⟩
    refine ⟨h3, h4.mono ?_⟩
    rintro en w' ⟨v, κ', e1, e2, e3, e4⟩
    exact ⟨v, κ', e1, e2, e3, e4.flag s.own⟩
  · rename_i x xs gr
    split at h
    case isFalse => simp at h
    rename_i hc
    simp only [Option.some.injEq, Prod.mk.injEq] at h
    obtain ⟨rfl, rfl⟩ := h
    obtain ⟨v, rfl, hv⟩ := one hA
    obtain ⟨A, cap, sz, ad, u, rfl, hn, hA0, hg, hsz, hΦ, hr⟩ := slice_inv hv
    have hAe := hA0 (by simp)
    subst hAe
    have hv' : Reads κ (.slice (some ad) (x :: xs).length cap) (.slice (x :: xs) .ex) := .slice (some ad) (x :: xs) cap sz .ex ad u hn hA0 ⟨ad, rfl⟩ hsz hΦ hr
    obtain ⟨h3, h4⟩ := calls_of_W (vs := #[Value.slice (some ad) (x :: xs).length cap]) (args := [.slice (x :: xs) .ex]) hL hok h1 h2 true (fun _ => hown) (run.2 s x xs hc.1 hc.2) hR ⟨rfl, fun j v p hv hp => by
      match j with
      | 0 => simp at hv hp; subst hv; subst hp; exact hv'
      | j + 1 => simp at hv⟩
    refine ⟨h3, h4.mono ?_⟩
    rintro en w' ⟨v, κ', e1, e2, e3, e4⟩
    exact ⟨v, κ', e1, e2, e3, e4.flag s.own⟩
  · simp at h

/-! ### The cells of an insertion -/
theorem writeAt_mid {A X C xs : List PV} {off : Nat} (ho : A.length = off) (hx : X.length = xs.length) : writeAt (A ++ X ++ C) off xs = A ++ xs ++ C := by
  rw [writeAt_eq xs _ off (by simp; omega)]
  subst ho
  rw [List.append_assoc A X C, List.take_left' rfl, ← List.append_assoc A X C, List.drop_left' (by simp; omega)]
theorem insC_parts {n d i : Nat} {cs xc : List PV} (hl : i * n + d * n ≤ cs.length) : insC n (cs.take (i * n + d * n)) xc i = cs.take (i * n) ++ xc ++ (cs.drop (i * n)).take (d * n) := by
  unfold insC
  rw [List.take_take, Nat.min_eq_left (by omega), List.drop_take]
  have e4 : i * n + d * n - i * n = d * n := by omega
  rw [e4]
theorem ins_grow {n k i : Nat} {cs xc : List PV} (hl : k * n ≤ cs.length) (hi : i ≤ k) (hx : xc.length = n) :
    writeAt (writeAt (cs.take (i * n) ++ List.replicate ((k + 1 - i) * n) PV.any) (i * n) xc) ((i + 1) * n) ((cs.drop (i * n)).take ((k - i) * n)) = insC n (cs.take (k * n)) xc i := by
  obtain ⟨d, rfl⟩ : ∃ d, k = i + d := ⟨k - i, by omega⟩
  have e1 : i + d + 1 - i = 1 + d := by omega
  have e2 : i + d - i = d := by omega
  rw [e1, e2]
  simp only [Nat.add_mul, Nat.one_mul] at hl ⊢
  have h1 : (cs.take (i * n)).length = i * n := by simp; omega
  have h2 : ((cs.drop (i * n)).take (d * n)).length = d * n := by simp; omega
  rw [insC_parts hl, ← List.replicate_append_replicate, ← List.append_assoc, writeAt_mid h1 (by simp [hx])]
  have := writeAt_mid (A := cs.take (i * n) ++ xc) (X := List.replicate (d * n) PV.any) (C := []) (xs := (cs.drop (i * n)).take (d * n)) (off := i * n + n) (by simp; omega) (by rw [h2]; simp)
  simpa using this
theorem ins_place {n k i cap : Nat} {cs xc : List PV} (hl : cs.length = cap * n) (hi : i ≤ k) (hk : k + 1 ≤ cap) (hx : xc.length = n) :
    (writeAt (writeAt cs ((i + 1) * n) ((cs.drop (i * n)).take ((k - i) * n))) (i * n) xc).take ((k + 1) * n) = insC n (cs.take (k * n)) xc i := by
  obtain ⟨d, rfl⟩ : ∃ d, k = i + d := ⟨k - i, by omega⟩
  have e2 : i + d - i = d := by omega
  rw [e2]
  have hc : (i + d + 1) * n ≤ cap * n := Nat.mul_le_mul_right _ hk
  simp only [Nat.add_mul, Nat.one_mul] at hc ⊢
  have h1 : (cs.take (i * n)).length = i * n := by simp; omega
  have h2 : ((cs.drop (i * n)).take (d * n)).length = d * n := by simp; omega
  rw [insC_parts (by omega)]
  have hcs : cs = (cs.take (i * n) ++ (cs.drop (i * n)).take n) ++ (cs.drop (i * n + n)).take (d * n) ++ cs.drop (i * n + n + d * n) := by
    have a1 : (cs.drop (i * n + n)).take (d * n) ++ cs.drop (i * n + n + d * n) = cs.drop (i * n + n) := by
      rw [← List.drop_drop (i := d * n) (j := i * n + n)]; exact List.take_append_drop _ _
    have a2 : (cs.drop (i * n)).take n ++ cs.drop (i * n + n) = cs.drop (i * n) := by
      rw [← List.drop_drop]; exact List.take_append_drop _ _
    rw [List.append_assoc _ _ (cs.drop (i * n + n + d * n)), a1, List.append_assoc, a2, List.take_append_drop]
  have hw1 : writeAt cs (i * n + n) ((cs.drop (i * n)).take (d * n)) = (cs.take (i * n) ++ (cs.drop (i * n)).take n) ++ (cs.drop (i * n)).take (d * n) ++ cs.drop (i * n + n + d * n) := by
    have := writeAt_mid (A := cs.take (i * n) ++ (cs.drop (i * n)).take n) (X := (cs.drop (i * n + n)).take (d * n)) (C := cs.drop (i * n + n + d * n)) (xs := (cs.drop (i * n)).take (d * n)) (off := i * n + n) (by simp; omega) (by rw [h2]; simp; omega)
    rw [← hcs] at this
    exact this
  rw [hw1, List.append_assoc (cs.take (i * n) ++ (cs.drop (i * n)).take n), writeAt_mid h1 (by simp [hx]; omega), ← List.append_assoc]
  exact List.take_left' (by simp; omega)
theorem ins_end {n k : Nat} {cs xc : List PV} (hl : k * n ≤ cs.length) : cs.take (k * n) ++ xc = insC n (cs.take (k * n)) xc k := by
  unfold insC
  rw [List.take_take, Nat.min_self, List.drop_eq_nil_of_le (by simp; omega), List.append_nil]
theorem ins_end_place {n k cap : Nat} {cs xc : List PV} (hl : cs.length = cap * n) (hk : k + 1 ≤ cap) (hx : xc.length = n) : (writeAt cs (k * n) xc).take ((k + 1) * n) = insC n (cs.take (k * n)) xc k := by
  have := ins_place (i := k) (k := k) hl (Nat.le_refl k) hk hx
  rw [Nat.sub_self, Nat.zero_mul, List.take_zero] at this
  exact this
theorem push_set (s : Sto) (o : Bool) (b b' : Box) : ((s.flag o).push b).set s.next (some b') = (s.flag o).push b' := by
  simp only [Sto.push, Sto.set, Sto.flag, Sto.mk.injEq, true_and, and_true]
  funext j
  by_cases h : j = s.next <;> simp [h]
theorem insC_length {n k i : Nat} {cs xc : List PV} (hl : k * n ≤ cs.length) (hi : i ≤ k) (hx : xc.length = n) : (insC n (cs.take (k * n)) xc i).length = (k + 1) * n := by
  have : i * n ≤ k * n := Nat.mul_le_mul_right _ hi
  simp only [insC, List.length_append, List.length_take, List.length_drop, hx, Nat.add_mul, Nat.one_mul]
  omega

theorem ownCells_set {id k : Nat} {o : Bool} {cs : List PV} (hl : k ≤ cs.length) : ownCells ((s.flag o).set id (some (.cells cs))) id 0 k = some (cs.take k) := by
  rw [ownCells_of (cs := cs) (by simp [Sto.set]) (by omega)]; rfl
theorem ownCells_push {k : Nat} {o : Bool} {cs : List PV} (hl : k ≤ cs.length) : ownCells ((s.flag o).push (.cells cs)) s.next 0 k = some (cs.take k) := by
  rw [ownCells_of (cs := cs) (by simp [Sto.push, Sto.flag]) (by omega)]; rfl


/-! What the transformers do to the store. -/
theorem tOver_same {args : List PV} {s s' : Sto} {r : PV} (h : tOver args s = some (r, s')) : s' = s := by
  unfold tOver at h
  split at h
  · split at h
    · split at h
      · simp only [Option.some.injEq, Prod.mk.injEq] at h
        exact h.2.symm
      · simp at h
    · simp at h
  · simp at h
theorem tOver_loc {args : List PV} {s s1 s' : Sto} {r : PV} (h : tOver args s = some (r, s1)) (hh : ∀ p, p ∈ args → Holds s s' p) : tOver args s' = some (r, s') := by
  unfold tOver at h ⊢
  split at h
  · rename_i es g id off n c z
    split at h
    · rename_i cs hcs
      rw [hh (.oslice id off n c z) (by simp) id (by simp [topIds]) cs hcs]
      split at h
      · rename_i hall
        simp only [hall, if_true]
        simp only [Option.some.injEq, Prod.mk.injEq] at h
        rw [h.1]
      · simp at h
    · simp at h
  · simp at h
theorem tOver_keep {args : List PV} {s s' : Sto} {r : PV} (h : tOver args s = some (r, s')) (hw : wfS s) : Keeps s s' := by
  rw [tOver_same h]; exact .refl hw
theorem tClone_keep {n m : Nat} {args : List PV} {s s' : Sto} {r : PV} (h : tClone n m args s = some (r, s')) : s' = s ∨ ∃ b, s' = s.push b := by
  unfold tClone at h
  split at h
  · simp only [Option.some.injEq, Prod.mk.injEq] at h
    exact .inl h.2.symm
  · split at h
    · simp only [Option.some.injEq, Prod.mk.injEq] at h
      exact .inr ⟨_, h.2.symm⟩
    · simp at h
  · simp at h
theorem tClone_keeps {n m : Nat} {args : List PV} {s s' : Sto} {r : PV} (h : tClone n m args s = some (r, s')) (hw : wfS s) : Keeps s s' := by
  rcases tClone_keep h with rfl | ⟨b, rfl⟩
  · exact .refl hw
  · exact .push hw _
theorem tClone_push {n m : Nat} {args : List PV} {s s' : Sto} {r : PV} (h : tClone n m args s = some (r, s')) : Grows s s' := by
  rcases tClone_keep h with rfl | ⟨b, rfl⟩
  · exact .refl _
  · exact .push _ _
theorem tIns_keep {t : TypeId} {n m : Nat} {args : List PV} {s s' : Sto} {r : PV} (h : tIns P t n m args s = some (r, s')) (hw : wfS s) : Keeps s s' := by
  have key : ∀ (g : Nat → Option Box), (∀ j, s.next + 1 ≤ j → g j = none) → Keeps s ⟨s.next + 1, g, s.own⟩ := fun g hg => ⟨hg, rfl, Nat.le_succ _⟩
  unfold tIns at h
  split at h
  · split at h
    · split at h
      · simp only [Option.map_eq_some_iff, Prod.mk.injEq] at h
        obtain ⟨_, _, _, rfl⟩ := h
        refine key _ (fun j hj => ?_)
        simp only [Sto.set]
        split
        · rfl
        · exact hw j (by omega)
      · simp at h
    · simp at h
  · split at h
    · simp only [Option.map_eq_some_iff, Prod.mk.injEq] at h
      obtain ⟨_, _, _, rfl⟩ := h
      exact key _ (fun j hj => hw j (by omega))
    · simp at h
  · simp at h
end
end Go.Pv
