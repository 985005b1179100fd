import Derived.Test.YtccjfglhoghbpaaPvRep
import Derived.Laws.Cells
import Derived.Laws.Append
namespace Go.Pv
open Go Go.RowKit

abbrev Env := Nat → PV
def upd (e : Env) (i : Nat) (p : PV) : Env := fun j => if j = i then p else e j

def ofCell : Value → PV
  | .slice none 0 0 => .slice [] .full
  | .slice _ _ _ => .any
  | .pointer (some _) => .any
  | .map (some _) => .any
  | .chan (some _) => .any
  | .func _ _ _ => .any
  | .iface _ _ => .any
  | .agg _ => .any
  | .tuple _ => .any
  | v => .lit v
def ofValue : Value → PV
  | .agg us => .agg (us.toList.map ofCell)
  | .tuple us => .tup (us.toList.map ofCell)
  | v => ofCell v

theorem reads_ofCell (κ : Kr) (v : Value) : Reads κ v (ofCell v) := by
  unfold ofCell
  split
  · exact .slice none [] 0 0 .full default (fun _ => default) (Nat.le_refl _) (fun h => absurd rfl h) rfl (fun _ h => by simp at h) (fun _ h => by simp at h) (fun i e j p h => by simp at h)
  all_goals first | exact .any _ | exact .lit _
theorem reads_ofValue (κ : Kr) (v : Value) : Reads κ v (ofValue v) := by
  unfold ofValue
  split
  · rename_i us
    refine .agg us _ (by simp) (fun j u p hu hp => ?_)
    rw [List.getElem?_map, Option.map_eq_some_iff] at hp
    obtain ⟨x, hx, rfl⟩ := hp
    rw [Array.getElem?_toList, hu] at hx
    simp only [Option.some.injEq] at hx
    subst hx
    exact reads_ofCell κ _
  · rename_i us
    refine .tup us _ (by simp) (fun j u p hu hp => ?_)
    rw [List.getElem?_map, Option.map_eq_some_iff] at hp
    obtain ⟨x, hx, rfl⟩ := hp
    rw [Array.getElem?_toList, hu] at hx
    simp only [Option.some.injEq] at hx
    subst hx
    exact reads_ofCell κ _
  · exact reads_ofCell κ v

def evO (e : Env) : Operand → PV
  | .tmp t => e t
  | .const v => ofValue v
  | .global _ => .any
  | .func f => .fn (.func f) [] []

def EnvR (κ : Kr) (a : Act) (e : Env) : Prop := ∀ t, Reads κ (a.tmps.getD t undef) (e t)
theorem EnvR.mono {κ κ' : Kr} (hk : κ.le κ') {a : Act} {e : Env} (h : EnvR κ a e) : EnvR κ' a e := fun t => (h t).mono hk
theorem EnvR.eval {κ : Kr} {a : Act} {e : Env} (h : EnvR κ a e) (x : Operand) : Reads κ (a.eval x) (evO e x) := by
  cases x with
  | tmp t => exact h t
  | const v => exact reads_ofValue κ v
  | global g => exact .any _
  | func f => exact .fn _ #[] #[] [] [] rfl rfl (fun j v p h => by simp at h) (fun j v p h => by simp at h)
theorem EnvR.put {κ : Kr} {a : Act} {e : Env} (h : EnvR κ a e) {d : Nat} {v : Value} {p : PV} (hv : Reads κ v p) (hd : d < a.tmps.size) : EnvR κ (a.put (some d) v) (upd e d p) := by
  intro t
  simp only [Act.put, upd]
  by_cases ht : t = d
  · subst ht
    simp [hd, hv]
  · rw [if_neg ht]
    have := h t
    simp only [Array.getD_eq_getD_getElem?, Array.getElem?_setIfInBounds] at this ⊢
    rw [if_neg (fun h => ht h.symm)]
    exact this

/-- Literal operands. -/
def lit1 : PV → Option Value
  | .lit v => some v
  | _ => none
def litL : List PV → Option (List Value)
  | [] => some []
  | p :: ps => match lit1 p, litL ps with
    | some v, some vs => some (v :: vs)
    | _, _ => none
def litOf : PV → Option Value
  | .lit v => some v
  | .agg cs => (litL cs).map fun l => .agg l.toArray
  | _ => none
theorem lit1_eq {κ : Kr} {v u : Value} {p : PV} (h : Reads κ v p) (hl : lit1 p = some u) : v = u := by
  cases h <;> simp_all [lit1]
theorem litL_eq {κ : Kr} : ∀ (cs : List PV) (us : List Value) (l : List Value), us.length = cs.length → (∀ (j : Nat) (v : Value) (p : PV), us[j]? = some v → cs[j]? = some p → Reads κ v p) → litL cs = some l → us = l
  | [], us, l, hs, _, hl => by
    simp only [litL, Option.some.injEq] at hl
    subst hl
    exact List.eq_nil_of_length_eq_zero hs
  | p :: ps, us, l, hs, hr, hl => by
    cases us with
    | nil => simp at hs
    | cons v vs =>
      simp only [litL] at hl
      cases h1 : lit1 p with
      | none => simp [h1] at hl
      | some u =>
        cases h2 : litL ps with
        | none => simp [h1, h2] at hl
        | some l' =>
          simp only [h1, h2, Option.some.injEq] at hl
          subst hl
          rw [lit1_eq (hr 0 v p rfl rfl) h1, litL_eq ps vs l' (by simpa using hs) (fun j u q hu hq => hr (j + 1) u q hu hq) h2]
theorem litOf_eq {κ : Kr} {v u : Value} {p : PV} (h : Reads κ v p) (hl : litOf p = some u) : v = u := by
  cases h with
  | lit v => simpa [litOf] using hl
  | agg us cs hs hr =>
    simp only [litOf, Option.map_eq_some_iff] at hl
    obtain ⟨l, h1, rfl⟩ := hl
    have := litL_eq cs us.toList l (by simpa using hs) (fun j v p hv hp => hr j v p (by simpa using hv) hp) h1
    rw [← this]
  | _ => simp [litOf] at hl

/-- A calculation that touches no memory and draws nothing. -/
def pureRun {α : Type} (P : Program) : Sem α → Option α
  | .pure a => some a
  | .program k => pureRun P (k P)
  | .mark _ k => pureRun P k
  | _ => none
theorem pureRun_run {α : Type} {P : Program} {s : Sem α} {a : α} (h : pureRun P s = some a) (w : World) : s.run P w = .ok a w := by
  induction s with
  | pure b => simp only [pureRun, Option.some.injEq] at h; subst h; rfl
  | program k ih => simp only [pureRun] at h; exact ih P h
  | mark m k ih => simp only [pureRun] at h; exact ih h
  | _ => simp [pureRun] at h

def cellsOf (p : PV) : Option (List PV) := match p with
  | .agg cs => some cs
  | p => if p.solid then some [p] else none
theorem solid_not {κ : Kr} {v : Value} {p : PV} (h : Reads κ v p) (hs : p.solid = true) : v.cells = #[v] ∧ (∀ us, v ≠ .agg us) ∧ (∀ us, v ≠ .tuple us) := by
  cases h with
  | lit v => cases v <;> simp_all [PV.solid, Value.cells]
  | any v => simp [PV.solid] at hs
  | agg us cs hs' hr => simp [PV.solid] at hs
  | tup us cs hs' hr => simp [PV.solid] at hs
  | _ => exact ⟨rfl, by simp, by simp⟩
theorem cellsOf_reads {κ : Kr} {v : Value} {p : PV} {cs : List PV} (h : Reads κ v p) (hc : cellsOf p = some cs) : ReadsA κ v.cells cs := by
  have one : p.solid = true → cs = [p] → ReadsA κ v.cells cs := by
    rintro hs rfl
    rw [(solid_not h hs).1]
    refine ⟨rfl, fun j u q hu hq => ?_⟩
    cases j with
    | zero => simp at hu hq; subst hu; subst hq; exact h
    | succ j => simp at hu
  cases h with
  | agg us cs' hs hr =>
    simp only [cellsOf, Option.some.injEq] at hc
    subst hc
    exact ⟨hs, hr⟩
  | _ =>
    simp only [cellsOf] at hc
    split at hc
    · rename_i h1
      simp only [Option.some.injEq] at hc
      exact one h1 hc.symm
    · simp at hc

def isAggD : TypeDesc → Bool
  | .struct _ | .array _ _ => true
  | _ => false
def loadFrom (P : Program) (t : TypeId) (cs : List PV) (off : Nat) : Option PV :=
  match P.underlying t, P.info? t with
  | some d, some i => if isAggD d then (if off + i.size ≤ cs.length then some (.agg ((cs.drop off).take i.size)) else none) else cs[off]?
  | _, _ => none

theorem run_underlying {P : Program} {t : TypeId} {d : TypeDesc} (h : P.underlying t = some d) (w : World) : (underlying t).run P w = .ok d w := by
  simp [underlying, program, Sem.run, h]
theorem run_typeInfo {P : Program} {t : TypeId} {i : TypeInfo} (h : P.info? t = some i) (w : World) : (typeInfo t).run P w = .ok i w := by
  simp [typeInfo, program, Sem.run, h]
theorem run_sizeOf {P : Program} {t : TypeId} {i : TypeInfo} (h : P.info? t = some i) (w : World) : (sizeOf t).run P w = .ok i.size w := by
  simp [sizeOf, run_typeInfo h]
theorem run_isAgg {P : Program} {t : TypeId} {d : TypeDesc} (h : P.underlying t = some d) (w : World) : (isAgg t).run P w = .ok (isAggD d) w := by
  simp only [isAgg, Sem.run_bind, run_underlying h, Result.andThen_ok]
  cases d <;> rfl
theorem run_zeroValue {P : Program} {t : TypeId} {i : TypeInfo} {z : Value} (h : P.info? t = some i) (hz : i.zero = some z) (w : World) : (zeroValue t).run P w = .ok z w := by
  simp [zeroValue, run_typeInfo h, hz]

theorem add_add (a : Addr) (m n : Nat) : (a.add m).add n = a.add (m + n) := by
  unfold Addr.add
  by_cases hm : m = 0
  · subst hm; simp
  · by_cases hn : n = 0
    · subst hn; simp [hm]
    · simp [hm, hn]; omega
theorem add_mk (b o n : Nat) : (⟨b, o, none⟩ : Addr).add n = ⟨b, o + n, none⟩ := by
  unfold Addr.add
  by_cases hn : n = 0
  · subst hn; simp
  · simp [hn]

theorem load_sound {κ : Kr} {P : Program} {w : World} {t : TypeId} {cs : List PV} {off : Nat} {p : PV} {ad : Addr} {u : Nat → Value}
    (hc : ∀ j, off + j < cs.length → w.cell? (ad.add j) = some (u j)) (hr : ∀ j q, cs[off + j]? = some q → Reads κ (u j) q)
    (h : loadFrom P t cs off = some p) : ∃ v, (loadVar t ad).run P w = .ok v w ∧ Reads κ v p := by
  unfold loadFrom at h
  cases hd : P.underlying t with
  | none => simp [hd] at h
  | some d =>
    cases hi : P.info? t with
    | none => simp [hd, hi] at h
    | some i =>
      simp only [hd, hi] at h
      simp only [loadVar, Sem.run_bind, run_isAgg hd, Result.andThen_ok]
      by_cases hg : isAggD d = true
      · rw [if_pos hg] at h ⊢
        split at h
        · rename_i hle
          simp only [Option.some.injEq] at h
          subst h
          refine ⟨.agg ((List.range i.size).map u).toArray, ?_, ?_⟩
          · simp only [Sem.run_bind, run_sizeOf hi, Result.andThen_ok]
            rw [run_loadCells w ad i.size u (fun j hj => hc j (by omega))]
            rfl
          · refine .agg _ _ (by simp; omega) (fun j v q hv hq => ?_)
            simp only [List.getElem?_toArray, List.getElem?_map] at hv
            rw [List.getElem?_take] at hq
            split at hq
            · rename_i hlt
              rw [List.getElem?_range hlt] at hv
              simp only [Option.map_some, Option.some.injEq] at hv
              subst hv
              rw [List.getElem?_drop] at hq
              exact hr j q hq
            · simp at hq
        · simp at h
      · simp only [Bool.not_eq_true] at hg
        rw [hg] at h ⊢
        simp only [Bool.false_eq_true, if_false] at h ⊢
        have hlt : off + 0 < cs.length := by
          rcases Nat.lt_or_ge off cs.length with h1 | h1
          · exact h1
          · rw [List.getElem?_eq_none h1] at h; simp at h
        have h0 := hc 0 hlt
        have hz : ad.add 0 = ad := by simp [Addr.add]
        rw [hz] at h0
        exact ⟨u 0, by simp [run_load, h0], hr 0 p h⟩

theorem rptr_inv {κ : Kr} {v : Value} {cs : List PV} (h : Reads κ v (.rptr cs)) : ∃ (ad : Addr) (u : Nat → Value), v = .pointer (some ad) ∧ (∀ j, j < cs.length → κ.Φ (ad.add j) = some (u j)) ∧ (∀ (j : Nat) (p : PV), cs[j]? = some p → Reads κ (u j) p) := by
  cases h with
  | rptr ad cs u hΦ h => exact ⟨ad, u, rfl, hΦ, h⟩
theorem ptr_inv {κ : Kr} {v : Value} {id off : Nat} (h : Reads κ v (.ptr id off)) : ∃ i, κ.inf id = some i ∧ v = .pointer (some ⟨i.blk, off, none⟩) := by
  cases h with
  | ptr id off i hi => exact ⟨i, hi, rfl⟩
theorem slice_inv {κ : Kr} {v : Value} {es : List PV} {g : Grow} (h : Reads κ v (.slice es g)) : ∃ (A : Option Addr) (cap sz : Nat) (ad : Addr) (u : Nat → Value), v = .slice A es.length cap ∧ es.length ≤ cap ∧ (es ≠ [] → A = some ad) ∧ GrowOk κ A es.length cap sz g ∧ (∀ e, e ∈ es → e.cells.length = sz) ∧
    (∀ j, j < es.length * sz → κ.Φ (ad.add j) = some (u j)) ∧ (∀ (i : Nat) (e : PV) (j : Nat) (p : PV), es[i]? = some e → e.cells[j]? = some p → Reads κ (u (i * sz + j)) p) := by
  cases h with
  | slice A es cap sz g ad u hn hA hg hsz hΦ h => exact ⟨A, cap, sz, ad, u, rfl, hn, hA, hg, hsz, hΦ, h⟩
theorem agg_inv {κ : Kr} {v : Value} {cs : List PV} (h : Reads κ v (.agg cs)) : ∃ us, v = .agg us ∧ ReadsA κ us cs := by
  cases h with
  | agg us cs hs h => exact ⟨us, rfl, hs, h⟩
theorem tup_inv {κ : Kr} {v : Value} {cs : List PV} (h : Reads κ v (.tup cs)) : ∃ us, v = .tuple us ∧ ReadsA κ us cs := by
  cases h with
  | tup us cs hs h => exact ⟨us, rfl, hs, h⟩
theorem fn_inv {κ : Kr} {v : Value} {f : Fn} {a b : List PV} (h : Reads κ v (.fn f a b)) : ∃ us vs, v = .func f us vs ∧ ReadsA κ us a ∧ ReadsA κ vs b := by
  cases h with
  | fn f us vs a b ha hb h k => exact ⟨us, vs, rfl, ⟨ha, h⟩, ⟨hb, k⟩⟩
theorem lit_inv {κ : Kr} {v u : Value} (h : Reads κ v (.lit u)) : v = u := by
  cases h with
  | lit v => rfl
theorem oslice_inv {κ : Kr} {v : Value} {id off n : Nat} {c : Option Nat} {z : Nat} (h : Reads κ v (.oslice id off n c z)) : ∃ i cap, κ.inf id = some i ∧ v = .slice (some ⟨i.blk, off, none⟩) n cap ∧ n ≤ cap ∧ (∀ k, c = some k → cap = k) ∧ (z = 0 ∨ off + cap * z ≤ i.csz) := by
  cases h with
  | oslice id off n cap c z i hi hn hc hz => exact ⟨i, cap, hi, rfl, hn, hc, hz⟩
theorem map_inv {κ : Kr} {v : Value} {id : Nat} (h : Reads κ v (.map id)) : ∃ i, κ.inf id = some i ∧ v = .map (some i.blk) := by
  cases h with
  | map id i hi => exact ⟨i, hi, rfl⟩

section
variable {w0 : Base} {κ : Kr} {s : Sto} {w : World} {P : Program}

/-- A box that lives, seen. -/
theorem Rep.see (h : Rep w0 κ s w) {id : Nat} {b : Box} {i : Inf} (hb : s.get id = some b) (hi : κ.inf id = some i) : w0.w.heap.size ≤ i.blk ∧ BoxAt κ w i b := by
  obtain ⟨i', h1, h2, h3⟩ := h.box id b hb
  rw [hi] at h1
  simp only [Option.some.injEq] at h1
  subst h1
  exact ⟨h2, h3⟩

theorem box_cell {i : Inf} {cs : List PV} (h : BoxAt κ w i (.cells cs)) (off : Nat) : ∃ u : Nat → Value, (∀ j, off + j < cs.length → w.cell? ((⟨i.blk, off, none⟩ : Addr).add j) = some (u j)) ∧ (∀ j q, cs[off + j]? = some q → Reads κ (u j) q) := by
  obtain ⟨arr, el, h1, ⟨h2, h3⟩, _⟩ := h
  refine ⟨fun j => arr.getD (off + j) undef, fun j hj => ?_, fun j q hq => ?_⟩
  · rw [add_mk]
    have : off + j < arr.size := by omega
    simp [World.cell?, h1, this]
  · have hlt : off + j < cs.length := by
      rcases Nat.lt_or_ge (off + j) cs.length with h1 | h1
      · exact h1
      · rw [List.getElem?_eq_none h1] at hq; simp at hq
    have : off + j < arr.size := by omega
    refine h3 (off + j) _ q ?_ hq
    simp [this]

theorem Rep.load_ptr (h : Rep w0 κ s w) {id off : Nat} {cs : List PV} {i : Inf} (hb : s.get id = some (.cells cs)) (hi : κ.inf id = some i) {t : TypeId} {p : PV} (hl : loadFrom P t cs off = some p) :
    ∃ v, (loadVar t ⟨i.blk, off, none⟩).run P w = .ok v w ∧ Reads κ v p := by
  obtain ⟨u, h1, h2⟩ := box_cell (h.see hb hi).2 off
  exact load_sound h1 h2 hl

theorem Rep.load_rptr (h : Rep w0 κ s w) {ad : Addr} {cs : List PV} {u : Nat → Value} (hΦ : ∀ j, j < cs.length → κ.Φ (ad.add j) = some (u j)) (hr : ∀ (j : Nat) (p : PV), cs[j]? = some p → Reads κ (u j) p) {t : TypeId} {p : PV} (hl : loadFrom P t cs 0 = some p) :
    ∃ v, (loadVar t ad).run P w = .ok v w ∧ Reads κ v p :=
  load_sound (off := 0) (fun j hj => h.phi _ _ (hΦ j (by omega))) (fun j q hq => hr j q (by simpa using hq)) hl

def writeAt (cs : List PV) (off : Nat) : List PV → List PV
  | [] => cs
  | x :: xs => writeAt (cs.set off x) (off + 1) xs

theorem Sto.set_set (s : Sto) (id : Nat) (a b : Option Box) : (s.set id a).set id b = s.set id b := by
  simp only [Sto.set]
  congr 1
  funext j
  split <;> rfl
theorem Sto.set_same (s : Sto) (id : Nat) (b : Box) (h : s.get id = some b) : s.set id (some b) = s := by
  simp only [Sto.set]
  congr 1
  funext j
  split
  · rename_i e; subst e; exact h.symm
  · rfl

theorem run_store_own {i : Inf} {cs : List PV} {off : Nat} {v : Value} (h : BoxAt κ w i (.cells cs)) (hoff : off < cs.length) (hv : (∀ us, v ≠ .agg us) ∧ (∀ us, v ≠ .tuple us)) (k : Sem Unit) :
    (Sem.store .plain ⟨i.blk, off, none⟩ v k).run P w = k.run P (w.setCell ⟨i.blk, off, none⟩ v) := by
  obtain ⟨arr, el, h1, ⟨h2, _⟩, _⟩ := h
  have hlt : off < arr.size := by omega
  have hc : w.cell? ⟨i.blk, off, none⟩ = some arr[off] := by simp [World.cell?, h1, hlt]
  have hf : w.frozen? ⟨i.blk, off, none⟩ = false := by simp [World.frozen?, h1]
  cases v <;> simp_all [Sem.run]

theorem Rep.storeCells (i : Inf) {id : Nat} (hi : κ.inf id = some i) : ∀ (vs : List Value) (xs : List PV) (cs : List PV) (off : Nat) (ad : Addr) (n : Nat) (s : Sto) (w : World), Rep w0 κ s w → s.get id = some (.cells cs) → ad.add n = ⟨i.blk, off, none⟩ → vs.length = xs.length →
    (∀ (j : Nat) (v : Value) (p : PV), vs[j]? = some v → xs[j]? = some p → Reads κ v p) → (∀ p, p ∈ xs → p.solid = true) → off + xs.length ≤ cs.length →
    ∃ w', (Go.storeCells ad vs n).run P w = .ok () w' ∧ Rep w0 κ (s.set id (some (.cells (writeAt cs off xs)))) w'
  | [], xs, cs, off, ad, n, s, w, h, hb, hn, hl, hr, hs, ho => by
    obtain rfl : xs = [] := List.eq_nil_of_length_eq_zero (by simpa using hl.symm)
    exact ⟨w, rfl, by rw [writeAt, Sto.set_same _ _ _ hb]; exact h⟩
  | v :: vs, xs, cs, off, ad, n, s, w, h, hb, hn, hl, hr, hs, ho => by
    cases xs with
    | nil => simp at hl
    | cons x xs =>
      have hx := hr 0 v x rfl rfl
      have hsol := solid_not hx (hs x (by simp))
      simp only [List.length_cons] at ho
      have hrun := run_store_own (P := P) (v := v) (h.see hb hi).2 (off := off) (by omega) hsol.2 (.pure ())
      have hrep := h.setCell (off := off) hb hi hx
      have hn' : ad.add (n + 1) = ⟨i.blk, off + 1, none⟩ := by rw [← add_add, hn, add_mk]
      obtain ⟨w', h1, h2⟩ := Rep.storeCells i hi vs xs (cs.set off x) (off + 1) ad (n + 1) _ _ hrep (by simp [Sto.set]) hn' (by simpa using hl)
        (fun j u q hu hq => hr (j + 1) u q hu hq) (fun p hp => hs p (by simp [hp])) (by simp; omega)
      refine ⟨w', ?_, ?_⟩
      · simp only [Go.storeCells, Sem.run_bind, store, hn, hrun]
        exact h1
      · rw [Sto.set_set] at h2
        exact h2

end
end Go.Pv
