import Derived.Test.YtccjfglhoghbpaaPvCore
namespace Go.Pv
open Go Go.RowKit

/-- What the run owns: cells that may be written; a row whose end may be appended to (its first 'used' cells are frozen); a map. -/
inductive Box where
  | cells (cs : List PV)
  | grow (used : Nat)
  | map (es : List (Value × PV))

structure Sto where
  next : Nat
  get : Nat → Option Box
  own : Bool := false

def Sto.set (s : Sto) (id : Nat) (b : Option Box) : Sto := { s with get := fun j => if j = id then b else s.get j }
def Sto.push (s : Sto) (b : Box) : Sto := { s with next := s.next + 1, get := fun j => if j = s.next then some b else s.get j }

def entryOk (κ : Kr) (m : MapEntry) (e : Value × PV) : Prop := m.key = e.1 ∧ Reads κ m.val e.2

def BoxAt (κ : Kr) (w : World) (i : Inf) : Box → Prop
  | .cells cs => ∃ arr el, w.heap[i.blk]? = some (.cells arr el (0, 0)) ∧ ReadsP κ arr cs ∧ (∀ a, a.block = i.blk → κ.Φ a = none) ∧ i.csz ≤ arr.size
  | .grow used => ∃ arr el, w.heap[i.blk]? = some (.cells arr el (0, 0)) ∧ arr.size = i.csz ∧ used ≤ arr.size ∧ ∀ a, a.block = i.blk → used ≤ a.off → κ.Φ a = none
  | .map es => ∃ ms clock, w.heap[i.blk]? = some (.map ms clock) ∧ ms.size = es.length ∧ (∀ (j : Nat) (m : MapEntry) (e : Value × PV), ms[j]? = some m → es[j]? = some e → entryOk κ m e) ∧ ∀ a, a.block = i.blk → κ.Φ a = none

theorem BoxAt.mono {κ κ' : Kr} {w w' : World} {i : Inf} {b : Box} (hk : κ.le κ') (hh : w'.heap[i.blk]? = w.heap[i.blk]?) (hΦ : ∀ a, a.block = i.blk → κ.Φ a = none → κ'.Φ a = none) (h : BoxAt κ w i b) : BoxAt κ' w' i b := by
  cases b with
  | cells cs => obtain ⟨arr, el, h1, h2, h3, h4⟩ := h; exact ⟨arr, el, hh.trans h1, h2.mono hk, fun a ha => hΦ a ha (h3 a ha), h4⟩
  | grow u => obtain ⟨arr, el, h1, h2, h3, h4⟩ := h; exact ⟨arr, el, hh.trans h1, h2, h3, fun a ha ho => hΦ a ha (h4 a ha ho)⟩
  | map es => obtain ⟨ms, cl, h1, h2, h3, h4⟩ := h; exact ⟨ms, cl, hh.trans h1, h2, fun j m e hm he => ⟨(h3 j m e hm he).1, (h3 j m e hm he).2.mono hk⟩, fun a ha => hΦ a ha (h4 a ha)⟩

/-- Where the run began: its world, and which cells were frozen then. -/
structure Base where
  w : World
  Φ : Addr → Option Value

structure Rep (w0 : Base) (κ : Kr) (s : Sto) (w : World) : Prop where
  below : Below w0.w.heap.size w0.w w
  old : ∀ a v, κ.Φ a = some v → w0.w.heap.size ≤ a.block ∨ w0.Φ a = some v
  phi : ∀ a v, κ.Φ a = some v → w.cell? a = some v
  dom : ∀ id i, κ.inf id = some i → id < s.next
  box : ∀ id b, s.get id = some b → ∃ i, κ.inf id = some i ∧ w0.w.heap.size ≤ i.blk ∧ BoxAt κ w i b
  inj : ∀ id id' b b' i i', s.get id = some b → s.get id' = some b' → κ.inf id = some i → κ.inf id' = some i' → i.blk = i'.blk → id = id'

theorem BoxAt.lt {κ : Kr} {w : World} {i : Inf} {b : Box} (h : BoxAt κ w i b) : i.blk < w.heap.size := by
  have : ∃ o, w.heap[i.blk]? = some o := by
    cases b with
    | cells cs => obtain ⟨arr, el, h1, _⟩ := h; exact ⟨_, h1⟩
    | grow u => obtain ⟨arr, el, h1, _⟩ := h; exact ⟨_, h1⟩
    | map es => obtain ⟨ms, cl, h1, _⟩ := h; exact ⟨_, h1⟩
  obtain ⟨o, ho⟩ := this
  exact (Array.getElem?_eq_some_iff.1 ho).1

section
variable {w0 : Base} {κ : Kr} {s : Sto} {w : World}

theorem Rep.hB (h : Rep w0 κ s w) : w0.w.heap.size ≤ w.heap.size := h.below.size
theorem Rep.phi_lt (h : Rep w0 κ s w) {a : Addr} {v : Value} (hv : κ.Φ a = some v) : a.block < w.heap.size := World.block_lt_of_cell? w a (h.phi a v hv)
theorem Rep.phi_spot (h : Rep w0 κ s w) {a : Addr} {v : Value} (hv : κ.Φ a = some v) : a.spot = none := by
  have := h.phi a v hv
  unfold World.cell? at this
  split at this
  · split at this
    · simp at this
    · rename_i hs; simpa using hs
  · simp at this

/-- Draws turn nothing. -/
theorem Rep.drawn (h : Rep w0 κ s w) (n : Nat) : Rep w0 κ s { w with drawn := n } :=
  ⟨⟨h.below.os, h.below.tape, h.below.output, h.below.size, h.below.block⟩, h.old, h.phi, h.dom, h.box, h.inj⟩

theorem cell_push (w : World) (o : Obj) {a : Addr} (ha : a.block < w.heap.size) : (w.alloc o).cell? a = w.cell? a :=
  World.cell?_of_block (w := w) (Below.heap_alloc w o a.block ha)

/-- A new block; the stage may tell more, if it tells the truth about the new block. -/
theorem Rep.grow1 (h : Rep w0 κ s w) (o : Obj) {κ' : Kr} (hk : κ.le κ') (hphi : ∀ a v, κ'.Φ a = some v → κ.Φ a = some v ∨ (a.block = w.heap.size ∧ (w.alloc o).cell? a = some v)) (hinf : ∀ id i, κ'.inf id = some i → κ.inf id = some i) : Rep w0 κ' s (w.alloc o) where
  below := h.below.alloc h.hB o
  old a v hv := by
    rcases hphi a v hv with h1 | ⟨h1, _⟩
    · exact h.old a v h1
    · exact .inl (by rw [h1]; exact h.hB)
  phi a v hv := by
    rcases hphi a v hv with h1 | ⟨_, h2⟩
    · rw [cell_push w o (h.phi_lt h1)]; exact h.phi a v h1
    · exact h2
  dom id i hi := h.dom id i (hinf id i hi)
  box id b hb := by
    obtain ⟨i, h1, h2, h3⟩ := h.box id b hb
    refine ⟨i, hk.2 _ _ h1, h2, h3.mono hk (Below.heap_alloc w o _ h3.lt) (fun a ha hn => ?_)⟩
    cases hv : κ'.Φ a with
    | none => rfl
    | some v =>
      rcases hphi a v hv with h4 | ⟨h4, _⟩
      · rw [hn] at h4; simp at h4
      · have := h3.lt; omega
  inj id id' b b' i i' hb hb' hi hi' he := h.inj id id' b b' i i' hb hb' (hinf _ _ hi) (hinf _ _ hi') he

theorem Rep.alloc_any (h : Rep w0 κ s w) (o : Obj) : Rep w0 κ s (w.alloc o) := h.grow1 o (Kr.le_refl κ) (fun _ _ hv => .inl hv) (fun _ _ hi => hi)

def Kr.freeze (κ : Kr) (b n : Nat) (arr : Array Value) : Kr := { κ with Φ := fun a => if a.block = b ∧ a.off < n ∧ a.spot = none then arr[a.off]? else κ.Φ a }
def Kr.own (κ : Kr) (id : Nat) (i : Inf) : Kr := { κ with inf := fun j => if j = id then some i else κ.inf j }

theorem alloc_heap (w : World) (o : Obj) : (w.alloc o).heap[w.heap.size]? = some o := by
  show (w.heap.push o)[w.heap.size]? = _
  simp

/-- A new frozen block. -/
theorem Rep.alloc_frozen (h : Rep w0 κ s w) (arr : Array Value) (el : TypeId) (fr : Nat × Nat) :
    κ.le (κ.freeze w.heap.size arr.size arr) ∧ Rep w0 (κ.freeze w.heap.size arr.size arr) s (w.alloc (.cells arr el fr)) := by
  have hk : κ.le (κ.freeze w.heap.size arr.size arr) := by
    refine ⟨fun a v hv => ?_, fun _ _ hi => hi⟩
    have := h.phi_lt hv
    simp only [Kr.freeze]
    rw [if_neg (by omega)]
    exact hv
  refine ⟨hk, h.grow1 _ hk (fun a v hv => ?_) (fun _ _ hi => hi)⟩
  simp only [Kr.freeze] at hv
  split at hv
  · rename_i hc
    refine .inr ⟨hc.1, ?_⟩
    simp only [World.cell?, hc.1, alloc_heap]
    simp [hc.2.2, hv]
  · exact .inl hv

theorem Rep.fresh (h : Rep w0 κ s w) : κ.inf s.next = none := by
  cases hi : κ.inf s.next with
  | none => rfl
  | some i => exact absurd (h.dom _ _ hi) (Nat.lt_irrefl _)
theorem Rep.fresh_get (h : Rep w0 κ s w) {id : Nat} (hid : s.next ≤ id) : s.get id = none := by
  cases hb : s.get id with
  | none => rfl
  | some b => obtain ⟨i, hi, _⟩ := h.box id b hb; exact absurd (h.dom _ _ hi) (by omega)

theorem Kr.le_own (κ : Kr) (id : Nat) (i : Inf) (h : κ.inf id = none) : κ.le (κ.own id i) :=
  ⟨fun _ _ hv => hv, fun j k hj => by simp only [Kr.own]; rw [if_neg (fun e => by subst e; rw [h] at hj; simp at hj)]; exact hj⟩

/-- A block that nobody holds, taken as one's own. -/
theorem Rep.take (h : Rep w0 κ s w) (i : Inf) (b : Box) (hB : w0.w.heap.size ≤ i.blk) (hb : BoxAt (κ.own s.next i) w i b) (hnew : ∀ id b' i', s.get id = some b' → κ.inf id = some i' → i'.blk ≠ i.blk) : Rep w0 (κ.own s.next i) (s.push b) w where
  below := h.below
  old := h.old
  phi := h.phi
  dom id j hj := by
    simp only [Kr.own] at hj
    simp only [Sto.push]
    split at hj
    · omega
    · have := h.dom _ _ hj; omega
  box id b' hb' := by
    simp only [Sto.push] at hb'
    split at hb'
    · rename_i e
      subst e
      simp only [Option.some.injEq] at hb'
      subst hb'
      exact ⟨i, by simp [Kr.own], hB, hb⟩
    · rename_i e
      obtain ⟨i', h1, h2, h3⟩ := h.box id b' hb'
      exact ⟨i', by simp [Kr.own, e, h1], h2, h3.mono (Kr.le_own _ _ _ h.fresh) rfl (fun _ _ hn => hn)⟩
  inj id id' b1 b2 i1 i2 hb1 hb2 hi1 hi2 he := by
    simp only [Sto.push] at hb1 hb2
    simp only [Kr.own] at hi1 hi2
    split at hb1 <;> split at hb2
    · omega
    · rename_i e1 e2
      rw [if_pos e1] at hi1; rw [if_neg e2] at hi2
      simp only [Option.some.injEq] at hi1
      subst hi1
      exact absurd he.symm (hnew id' b2 i2 hb2 hi2)
    · rename_i e1 e2
      rw [if_neg e1] at hi1; rw [if_pos e2] at hi2
      simp only [Option.some.injEq] at hi2
      subst hi2
      exact absurd he (hnew id b1 i1 hb1 hi1)
    · rename_i e1 e2
      rw [if_neg e1] at hi1; rw [if_neg e2] at hi2
      exact h.inj id id' b1 b2 i1 i2 hb1 hb2 hi1 hi2 he

theorem Rep.own_lt (h : Rep w0 κ s w) {id : Nat} {b : Box} {i : Inf} (hb : s.get id = some b) (hi : κ.inf id = some i) : i.blk < w.heap.size := by
  obtain ⟨i', h1, _, h3⟩ := h.box id b hb
  rw [hi] at h1
  simp only [Option.some.injEq] at h1
  subst h1
  exact h3.lt

/-- A new block of one's own. -/
theorem Rep.alloc_own (h : Rep w0 κ s w) (o : Obj) (csz : Nat) (b : Box) (hb : BoxAt (κ.own s.next ⟨w.heap.size, csz⟩) (w.alloc o) ⟨w.heap.size, csz⟩ b) :
    κ.le (κ.own s.next ⟨w.heap.size, csz⟩) ∧ Rep w0 (κ.own s.next ⟨w.heap.size, csz⟩) (s.push b) (w.alloc o) :=
  ⟨Kr.le_own _ _ _ h.fresh, (h.alloc_any o).take ⟨w.heap.size, csz⟩ b h.hB hb (fun id b' i' hg hi => by have := h.own_lt hg hi; simp; omega)⟩

theorem Rep.none_new (h : Rep w0 κ s w) : ∀ a : Addr, a.block = w.heap.size → κ.Φ a = none := fun a ha => by
  cases hv : κ.Φ a with
  | none => rfl
  | some v => have := h.phi_lt hv; omega

theorem Rep.alloc_cells (h : Rep w0 κ s w) (arr : Array Value) (el : TypeId) (cs : List PV) (hr : ReadsP κ arr cs) :
    κ.le (κ.own s.next ⟨w.heap.size, arr.size⟩) ∧ Rep w0 (κ.own s.next ⟨w.heap.size, arr.size⟩) (s.push (.cells cs)) (w.alloc (.cells arr el)) :=
  h.alloc_own _ _ _ ⟨arr, el, alloc_heap w _, hr.mono (Kr.le_own _ _ _ h.fresh), h.none_new, Nat.le_refl _⟩

/-- What is forgotten. -/
theorem Rep.flag (h : Rep w0 κ s w) (b : Bool) : Rep w0 κ { s with own := b } w := ⟨h.below, h.old, h.phi, h.dom, h.box, h.inj⟩

theorem Rep.forget (h : Rep w0 κ s w) {s' : Sto} (hn : s'.next = s.next) (hg : ∀ id b, s'.get id = some b → s.get id = some b) : Rep w0 κ s' w :=
  ⟨h.below, h.old, h.phi, fun id i hi => by rw [hn]; exact h.dom id i hi, fun id b hb => h.box id b (hg id b hb), fun id id' b b' i i' hb hb' => h.inj id id' b b' i i' (hg _ _ hb) (hg _ _ hb')⟩

theorem heap_setCell_ne (w : World) (a : Addr) (u : Value) (k : Nat) (h : k ≠ a.block) : (w.setCell a u).heap[k]? = w.heap[k]? := Below.heap_setCell w a u k h
theorem heap_setCell_eq (w : World) (b off : Nat) (u : Value) {arr : Array Value} {el : TypeId} {fr : Nat × Nat} (h : w.heap[b]? = some (.cells arr el fr)) :
    (w.setCell ⟨b, off, none⟩ u).heap[b]? = some (.cells (arr.setIfInBounds off u) el fr) := by
  simp [World.setCell, Array.getElem?_modify, h]

/-- A cell of one's own is written. -/
theorem Rep.setCell (h : Rep w0 κ s w) {id off : Nat} {cs : List PV} {i : Inf} (hb : s.get id = some (.cells cs)) (hi : κ.inf id = some i) {v : Value} {p : PV} (hv : Reads κ v p) :
    Rep w0 κ (s.set id (some (.cells (cs.set off p)))) (w.setCell ⟨i.blk, off, none⟩ v) := by
  obtain ⟨i', hi', hB, arr, el, ha, hr, hΦ, hcsz⟩ := h.box id _ hb
  rw [hi] at hi'
  simp only [Option.some.injEq] at hi'
  subst hi'
  refine ⟨h.below.setCell hB v, h.old, fun a u hu => ?_, h.dom, fun id' b' hb' => ?_, fun id1 id2 b1 b2 i1 i2 h1 h2 k1 k2 he => ?_⟩
  · have hne : a.block ≠ i.blk := fun e => by rw [hΦ a e] at hu; simp at hu
    rw [World.cell?_of_block (w := w) (heap_setCell_ne w ⟨i.blk, off, none⟩ v a.block hne)]
    exact h.phi a u hu
  · simp only [Sto.set] at hb'
    split at hb'
    · rename_i e
      subst e
      simp only [Option.some.injEq] at hb'
      subst hb'
      refine ⟨i, hi, hB, arr.setIfInBounds off v, el, heap_setCell_eq w _ _ _ ha, ⟨by simpa using hr.1, fun j u q hu hq => ?_⟩, hΦ, by simpa using hcsz⟩
      rw [Array.getElem?_setIfInBounds] at hu
      rw [List.getElem?_set] at hq
      split at hu
      · rename_i e
        subst e
        rw [if_pos rfl] at hq
        split at hu
        · rename_i hlt
          split at hq
          · simp only [Option.some.injEq] at hu hq
            subst hu; subst hq
            exact hv
          · simp at hq
        · simp at hu
      · rename_i e
        rw [if_neg e] at hq
        exact hr.2 j u q hu hq
    · rename_i e
      obtain ⟨i', h1, h2, h3⟩ := h.box id' b' hb'
      refine ⟨i', h1, h2, h3.mono (Kr.le_refl κ) (heap_setCell_ne _ _ _ _ (fun e2 => e ?_)) (fun _ _ hn => hn)⟩
      exact h.inj id' id b' _ i' i hb' hb h1 hi e2
  · simp only [Sto.set] at h1 h2
    have g : ∀ {j b}, (if j = id then some (Box.cells (cs.set off p)) else s.get j) = some b → ∃ b', s.get j = some b' := by
      intro j b hj
      split at hj
      · rename_i e; exact ⟨_, e ▸ hb⟩
      · exact ⟨_, hj⟩
    obtain ⟨b1', h1'⟩ := g h1
    obtain ⟨b2', h2'⟩ := g h2
    exact h.inj id1 id2 b1' b2' i1 i2 h1' h2' k1 k2 he
end
end Go.Pv
