import Derived.Test.YtccjfglhoghbpaaPvOp2
namespace Go.Pv
open Go Go.RowKit

section
variable {w0 : Base} {κ : Kr} {s : Sto} {w : World} {P : Program} {p : PV}

/-! ### append -/
/-- Cells written one behind the other in a block. -/
theorem run_storeRow (b : Nat) (el : TypeId) (ad : Addr) : ∀ (vs : List Value) (n off : Nat) (arr : Array Value) (w : World), ad.add n = ⟨b, off, none⟩ → w.heap[b]? = some (.cells arr el (0, 0)) → off + vs.length ≤ arr.size →
    (∀ v, v ∈ vs → (∀ us, v ≠ .agg us) ∧ (∀ us, v ≠ .tuple us)) →
    ∃ w', (Go.storeCells ad vs n).run P w = .ok () w' ∧ w'.heap[b]? = some (.cells (arrSet arr off vs) el (0, 0)) ∧ (∀ k, k ≠ b → w'.heap[k]? = w.heap[k]?) ∧ w'.heap.size = w.heap.size ∧ w'.os = w.os ∧ w'.tape = w.tape ∧ w'.output = w.output
  | [], n, off, arr, w, _, hb, _, _ => ⟨w, rfl, hb, fun _ _ => rfl, rfl, rfl, rfl, rfl⟩
  | v :: vs, n, off, arr, w, hn, hb, hle, hv => by
    simp only [List.length_cons] at hle
    have hlt : off < arr.size := by omega
    have hc : w.cell? ⟨b, off, none⟩ = some arr[off] := by simp [World.cell?, hb, hlt]
    have hf : w.frozen? ⟨b, off, none⟩ = false := by simp [World.frozen?, hb]
    have hrun : (store ⟨b, off, none⟩ v).run P w = .ok () (w.setCell ⟨b, off, none⟩ v) := by
      have h1 := hv v (by simp)
      unfold store
      cases v <;> simp_all [Sem.run]
    obtain ⟨w', h1, h2, h3, h4, h5, h6, h7⟩ := run_storeRow b el ad vs (n + 1) (off + 1) (arr.setIfInBounds off v) (w.setCell ⟨b, off, none⟩ v) (by rw [← add_add, hn, add_mk]) (heap_setCell_eq w b off v hb) (by simp; omega) (fun v hv' => hv v (by simp [hv']))
    refine ⟨w', ?_, h2, fun k hk => (h3 k hk).trans (heap_setCell_ne w _ v k hk), by rw [h4]; simp, h5, h6, h7⟩
    simp only [Go.storeCells, Sem.run_bind, hn, hrun, Result.andThen_ok]
    exact h1

def flat (xs : List PV) : List PV := xs.flatMap PV.cells

theorem flat_length {xs : List PV} {sz : Nat} (h : ∀ e, e ∈ xs → e.cells.length = sz) : (flat xs).length = xs.length * sz := by
  induction xs with
  | nil => simp [flat]
  | cons x xs ih =>
    simp only [flat, List.flatMap_cons, List.length_append, List.length_cons] at *
    rw [ih (fun e he => h e (by simp [he])), h x (by simp), Nat.add_mul]
    omega
theorem flat_get {xs : List PV} {sz : Nat} (h : ∀ e, e ∈ xs → e.cells.length = sz) : ∀ (i : Nat) (e : PV) (j : Nat), xs[i]? = some e → j < sz → (flat xs)[i * sz + j]? = e.cells[j]? := by
  induction xs with
  | nil => intro i e j he; simp at he
  | cons x xs ih =>
    intro i e j he hj
    have hx := h x (by simp)
    cases i with
    | zero =>
      simp only [List.getElem?_cons_zero, Option.some.injEq] at he
      subst he
      simp only [flat, List.flatMap_cons, Nat.zero_mul, Nat.zero_add]
      rw [List.getElem?_append_left (by omega)]
    | succ i =>
      simp only [List.getElem?_cons_succ] at he
      simp only [flat, List.flatMap_cons]
      rw [List.getElem?_append_right (by rw [hx, Nat.add_mul]; omega), hx, Nat.add_mul, show i * sz + 1 * sz + j - sz = i * sz + j from by omega]
      exact ih (fun e he => h e (by simp [he])) i e j he hj

/-- The cells of a slice's elements, loaded. -/
theorem run_firstCells (h : Rep w0 κ s w) {A : Option Addr} {es : List PV} {cap sz : Nat} {ad : Addr} {u : Nat → Value} (hA : es ≠ [] → A = some ad) (hsz : ∀ e, e ∈ es → e.cells.length = sz)
    (hΦ : ∀ j, j < es.length * sz → κ.Φ (ad.add j) = some (u j)) (hr : ∀ (i : Nat) (e : PV) (j : Nat) (p : PV), es[i]? = some e → e.cells[j]? = some p → Reads κ (u (i * sz + j)) p) :
    ∃ vs : Array Value, (Builtin.firstCells sz es.length (.slice A es.length cap)).run P w = .ok vs w ∧ vs.size = es.length * sz ∧ Laid κ vs sz 0 es := by
  refine ⟨((List.range (es.length * sz)).map u).toArray, ?_, by simp, fun i q hq => ⟨hsz q (List.mem_of_getElem? hq), fun j c hc => ?_⟩⟩
  · cases es with
    | nil =>
      cases A with
      | none => simp [Builtin.firstCells]
      | some a => simp [Builtin.firstCells, loadCells, loadCellsFrom]
    | cons e es =>
      rw [hA (by simp)]
      simp only [Builtin.firstCells]
      exact run_loadCells w ad _ u (fun j hj => h.phi _ _ (hΦ j hj))
  · have hlt : i < es.length := by
      rcases Nat.lt_or_ge i es.length with h1 | h1
      · exact h1
      · rw [List.getElem?_eq_none h1] at hq; simp at hq
    have hj : j < sz := by
      rw [← hsz q (List.mem_of_getElem? hq)]
      rcases Nat.lt_or_ge j q.cells.length with h1 | h1
      · exact h1
      · rw [List.getElem?_eq_none h1] at hc; simp at hc
    refine ⟨u (i * sz + j), ?_, hr i q j c hq hc⟩
    have : i * sz + j < es.length * sz := by
      have := Nat.mul_le_mul_right sz hlt
      rw [Nat.succ_mul] at this
      omega
    simp only [Nat.zero_add, List.getElem?_toArray, List.getElem?_map, List.getElem?_range this]
    rfl

theorem Laid.append {us vs : Array Value} {sz : Nat} {es xs : List PV} (h : Laid κ us sz 0 es) (k : Laid κ vs sz 0 xs) (hu : us.size = es.length * sz) : Laid κ (us ++ vs) sz 0 (es ++ xs) := by
  intro i q hq
  by_cases hi : i < es.length
  · rw [List.getElem?_append_left hi] at hq
    obtain ⟨h1, h2⟩ := h i q hq
    refine ⟨h1, fun j c hc => ?_⟩
    obtain ⟨v, h3, h4⟩ := h2 j c hc
    have : (0 + i) * sz + j < us.size := by
      rcases Nat.lt_or_ge ((0 + i) * sz + j) us.size with h5 | h5
      · exact h5
      · rw [Array.getElem?_eq_none h5] at h3; simp at h3
    exact ⟨v, by rw [Array.getElem?_append_left this]; exact h3, h4⟩
  · rw [List.getElem?_append_right (by omega)] at hq
    obtain ⟨h1, h2⟩ := k _ q hq
    refine ⟨h1, fun j c hc => ?_⟩
    obtain ⟨v, h3, h4⟩ := h2 j c hc
    refine ⟨v, ?_, h4⟩
    have e : i * sz = es.length * sz + (i - es.length) * sz := by rw [← Nat.add_mul]; congr 1; omega
    rw [Array.getElem?_append_right (by rw [hu, Nat.zero_add]; omega), hu]
    rw [Nat.zero_add] at h3 ⊢
    rw [show i * sz + j - es.length * sz = (i - es.length) * sz + j from by omega]
    exact h3
theorem Laid.more {us vs : Array Value} {sz : Nat} {es : List PV} (h : Laid κ us sz 0 es) : Laid κ (us ++ vs) sz 0 es := by
  intro i q hq
  obtain ⟨h1, h2⟩ := h i q hq
  refine ⟨h1, fun j c hc => ?_⟩
  obtain ⟨v, h3, h4⟩ := h2 j c hc
  have : (0 + i) * sz + j < us.size := by
    rcases Nat.lt_or_ge ((0 + i) * sz + j) us.size with h5 | h5
    · exact h5
    · rw [Array.getElem?_eq_none h5] at h3; simp at h3
  exact ⟨v, by rw [Array.getElem?_append_left this]; exact h3, h4⟩
theorem Laid.mono {κ' : Kr} (hk : κ.le κ') {us : Array Value} {sz k : Nat} {es : List PV} (h : Laid κ us sz k es) : Laid κ' us sz k es :=
  fun i q hq => ⟨(h i q hq).1, fun j c hc => let ⟨v, h3, h4⟩ := (h i q hq).2 j c hc; ⟨v, h3, h4.mono hk⟩⟩

/-- A row whose end may be appended to, appended to where it lies. -/
theorem Rep.append_in (h : Rep w0 κ s w) {id : Nat} {i : Inf} {used : Nat} (hb : s.get id = some (.grow used)) (hi : κ.inf id = some i) {arr : Array Value} {el : TypeId} (ha : w.heap[i.blk]? = some (.cells arr el (0, 0))) {vs : List Value} (hle : used + vs.length ≤ arr.size) {w' : World}
    (h2 : w'.heap[i.blk]? = some (.cells (arrSet arr used vs) el (0, 0))) (h3 : ∀ k, k ≠ i.blk → w'.heap[k]? = w.heap[k]?) (h4 : w'.heap.size = w.heap.size) (h5 : w'.os = w.os) (h6 : w'.tape = w.tape) (h7 : w'.output = w.output) :
    ∃ κ', κ.le κ' ∧ Rep w0 κ' ((s.set id none).push (.grow (used + vs.length))) w' ∧ κ'.inf s.next = some i ∧ (∀ j, j < used + vs.length → (used ≤ j ∨ κ.Φ ⟨i.blk, j, none⟩ = arr[j]?) → κ'.Φ ⟨i.blk, j, none⟩ = (arrSet arr used vs)[j]?) := by
  obtain ⟨hB, hbox⟩ := h.see hb hi
  have hbox' : used ≤ arr.size ∧ arr.size = i.csz ∧ ∀ a : Addr, a.block = i.blk → used ≤ a.off → κ.Φ a = none := by
    obtain ⟨arr', el', g1, g2, g3, g4⟩ := hbox
    rw [ha] at g1
    simp only [Option.some.injEq, Obj.cells.injEq] at g1
    obtain ⟨rfl, rfl, _⟩ := g1
    exact ⟨g3, g2, g4⟩
  obtain ⟨g3, g2, g4⟩ := hbox'
  let κ1 : Kr := { κ with Φ := fun a => if a.block = i.blk ∧ used ≤ a.off ∧ a.off < used + vs.length ∧ a.spot = none then (arrSet arr used vs)[a.off]? else κ.Φ a }
  have hk1 : κ.le κ1 := by
    refine ⟨fun a v hv => ?_, fun _ _ hj => hj⟩
    simp only [κ1]
    split
    · rename_i hc
      rw [g4 a hc.1 hc.2.1] at hv
      simp at hv
    · exact hv
  have hold : ∀ a v, κ.Φ a = some v → w'.cell? a = some v := by
    intro a v hv
    by_cases hab : a.block = i.blk
    · have hlt : a.off < used := by
        rcases Nat.lt_or_ge a.off used with h8 | h8
        · exact h8
        · rw [g4 a hab h8] at hv; simp at hv
      have hc := h.phi a v hv
      have hs := h.phi_spot hv
      simp only [World.cell?, hab, ha, hs] at hc
      simp only [World.cell?, hab, h2, hs, arrSet_get]
      rw [if_neg (show ¬ (used ≤ a.off ∧ a.off < used + vs.length ∧ a.off < arr.size) from by omega)]
      exact hc
    · rw [World.cell?_of_block (w := w) (h3 _ hab)]
      exact h.phi a v hv
  have hr1 : Rep w0 κ1 (s.set id none) w' := by
    refine ⟨h.below.trans ⟨h5, h6, h7, by omega, fun k hk => h3 k (by omega)⟩, fun a v hv => ?_, fun a v hv => ?_, h.dom, fun id' b' hb' => ?_, fun id1 id2 b1 b2 i1 i2 hb1 hb2 => ?_⟩
    · simp only [κ1] at hv
      split at hv
      · rename_i hc
        exact .inl (by rw [hc.1]; exact hB)
      · exact h.old a v hv
    · simp only [κ1] at hv
      split at hv
      · rename_i hc
        simp only [World.cell?, hc.1, h2, hc.2.2.2]
        simpa using hv
      · exact hold a v hv
    · simp only [Sto.set] at hb'
      split at hb'
      · simp at hb'
      · rename_i hne
        obtain ⟨i', k1, k2, k3⟩ := h.box id' b' hb'
        have hbne : i'.blk ≠ i.blk := fun e => hne (h.inj id' id b' _ i' i hb' hb k1 hi e)
        refine ⟨i', k1, k2, k3.mono hk1 (h3 _ hbne) (fun a ha' hn => ?_)⟩
        simp only [κ1]
        rw [if_neg (by rintro ⟨e, _⟩; exact hbne (ha'.symm.trans e))]
        exact hn
    · have g : ∀ {j b}, (s.set id none).get j = some b → s.get j = some b := by
        intro j b hj
        simp only [Sto.set] at hj
        split at hj
        · simp at hj
        · exact hj
      exact h.inj id1 id2 b1 b2 i1 i2 (g hb1) (g hb2)
  have hfresh : κ1.inf s.next = none := h.fresh
  refine ⟨κ1.own s.next i, Kr.le_trans hk1 (Kr.le_own _ _ _ hfresh), ?_, by simp [Kr.own], fun j hj hor => ?_⟩
  · refine hr1.take i (.grow (used + vs.length)) hB ⟨arrSet arr used vs, el, h2, by rw [arrSet_size]; exact g2, by rw [arrSet_size]; exact hle, fun a hab hao => ?_⟩ (fun id' b' i' hb' hi' => ?_)
    · simp only [Kr.own, κ1]
      rw [if_neg (by rintro ⟨_, _, h8, _⟩; omega)]
      exact g4 a hab (by omega)
    · simp only [Sto.set] at hb'
      split at hb'
      · simp at hb'
      · rename_i hne
        exact fun e => hne (h.inj id' id b' _ i' i hb' hb hi' hi e)
  · simp only [Kr.own, κ1]
    split
    · rfl
    · rename_i hc
      rcases hor with h8 | h8
      · exact absurd (by simp; exact ⟨h8, hj⟩) hc
      · rw [h8, arrSet_get, if_neg]
        rintro ⟨k1, _⟩
        exact hc (by simp; exact ⟨k1, hj⟩)

theorem askRoom_run (n : Nat) (w : World) : (askRoom n).run P w = .ok () w := by
  unfold askRoom
  split <;> rfl

def elemsOk (size : Nat) (xs : List PV) : Bool := xs.all fun e => e.cells.length == size
def elemsSolid (xs : List PV) : Bool := xs.all fun e => e.cells.all PV.solid
theorem elemsOk_mem {size : Nat} {xs : List PV} (h : elemsOk size xs = true) : ∀ e, e ∈ xs → e.cells.length = size := by
  intro e he
  have := List.all_eq_true.1 h e he
  simpa using this

def evAppend (P : Program) (s : Sto) (argTypes : Array TypeId) (a b : PV) : Option (PV × Sto) :=
  match argTypes.toList with
  | [t, t'] => match P.underlying t with
    | some (.slice el) => match P.info? el, a, b with
      | some i, .slice es g, .slice xs _ => match xs, i.zero with
        | [], _ => if t = t' then some (.slice es g, s) else none
        | x :: xs, some z => if t = t' ∧ z.cells.size = i.size ∧ 0 < i.size ∧ 0 < i.bytes ∧ elemsOk i.size es = true ∧ elemsOk i.size (x :: xs) = true ∧ elemsSolid (x :: xs) = true ∧ (es.length + (x :: xs).length) * i.bytes ≤ 140737488355328 then
            match g with
            | .full => some (.slice (es ++ x :: xs) (.tok s.next), s.push (.grow ((es.length + (x :: xs).length) * i.size)))
            | .tok id => match s.get id with
              | some (.grow used) => if used = es.length * i.size then some (.slice (es ++ x :: xs) (.tok s.next), (s.set id none).push (.grow ((es.length + (x :: xs).length) * i.size))) else none
              | _ => none
            | _ => none
          else none
        | _, none => none
      | _, _, _ => none
    | _ => none
  | _ => none

theorem Rep.kill (h : Rep w0 κ s w) (id : Nat) : Rep w0 κ (s.set id none) w := h.forget rfl (fun j b hj => by
  simp only [Sto.set] at hj
  split at hj
  · simp at hj
  · exact hj)

theorem run_append_new {t el : TypeId} {ty : TypeId} (hd : P.underlying t = some (.slice el)) {i : TypeInfo} {z : Value} (hi : P.info? el = some i) (hz : i.zero = some z) (hby : 0 < i.bytes)
    {A B : Option Addr} {n cap m cap' : Nat} {va vb : Array Value} (w : World) (hva : (Builtin.firstCells i.size n (.slice A n cap)).run P w.drew = .ok va w.drew) (hvb : (Builtin.firstCells i.size m (.slice B m cap')).run P w.drew = .ok vb w.drew)
    (hg : cap < n + m) (hle : (n + m) * i.bytes ≤ 140737488355328) :
    (Builtin.append_ #[t, t] ty #[.slice A n cap, .slice B m cap']).run P w =
      .ok (.slice (some ⟨w.heap.size, 0, none⟩) (n + m) (grownCap w (n + m) cap el)) (w.drew.alloc (.cells (va ++ vb ++ Builtin.zeroCells z.cells (grownCap w (n + m) cap el - (n + m))) el)) := by
  have hn : ¬ (n + m ≤ cap) := by omega
  have hsmall : n + m ≤ 140737488355328 := Nat.le_trans (Nat.le_mul_of_pos_right _ hby) hle
  have h63' : ¬ (9223372036854775807 < ((n : Int) + (m : Int))) := by omega
  have h48 := growslice_fits hg hle
  have h48' : ¬ (281474976710656 < Builtin.nextslicecap (n + m) cap * i.bytes) := by omega
  simp [Builtin.append_, run_underlying hd, sizeOf, run_typeInfo hi, zeroValue, hz, Builtin.lenOf, hn, h63', h48', Question.forced, newRow, grownCap, choose, Sem.run]
  rw [hva]
  simp only [Result.andThen_ok]
  rw [hvb]
  rfl

theorem laid_cells {us : Array Value} {size : Nat} {es : List PV} (h : Laid κ us size 0 es) (hs : us.size = es.length * size) : ∀ (k : Nat) (v : Value), us[k]? = some v → ∃ q c, q ∈ es ∧ c ∈ q.cells ∧ Reads κ v c := by
  intro k v hk
  have hlt : k < es.length * size := by
    rw [← hs]
    rcases Nat.lt_or_ge k us.size with h5 | h5
    · exact h5
    · rw [Array.getElem?_eq_none h5] at hk; simp at hk
  have hsz : 0 < size := by
    rcases Nat.eq_zero_or_pos size with h0 | h0
    · subst h0; simp at hlt
    · exact h0
  have hi : k / size < es.length := by rw [Nat.div_lt_iff_lt_mul hsz]; exact hlt
  obtain ⟨h1, h2⟩ := h (k / size) es[k / size] (by simp [hi])
  have hj : k % size < (es[k / size]).cells.length := by rw [h1]; exact Nat.mod_lt _ hsz
  obtain ⟨v', h3, h4⟩ := h2 (k % size) ((es[k / size]).cells[k % size]) (by simp [hj])
  have e : (0 + k / size) * size + k % size = k := by rw [Nat.zero_add, Nat.mul_comm]; exact Nat.div_add_mod k size
  rw [e, hk] at h3
  simp only [Option.some.injEq] at h3
  subst h3
  exact ⟨es[k / size], (es[k / size]).cells[k % size], List.getElem_mem hi, List.getElem_mem hj, h4⟩

theorem append_sound_new (h : Rep w0 κ s w) {t el : TypeId} {ty : TypeId} (hd : P.underlying t = some (.slice el)) {i : TypeInfo} {z : Value} (hi : P.info? el = some i) (hz : i.zero = some z) (hzs : z.cells.size = i.size) (hpos : 0 < i.size) (hby : 0 < i.bytes)
    {A B : Option Addr} {cap cap' : Nat} {es xs : List PV} {ad ad' : Addr} {u u' : Nat → Value}
    (hA : es ≠ [] → A = some ad) (hsz : ∀ e, e ∈ es → e.cells.length = i.size) (hΦ : ∀ j, j < es.length * i.size → κ.Φ (ad.add j) = some (u j)) (hr : ∀ (k : Nat) (e : PV) (j : Nat) (p : PV), es[k]? = some e → e.cells[j]? = some p → Reads κ (u (k * i.size + j)) p)
    (hB : xs ≠ [] → B = some ad') (hsz' : ∀ e, e ∈ xs → e.cells.length = i.size) (hΦ' : ∀ j, j < xs.length * i.size → κ.Φ (ad'.add j) = some (u' j)) (hr' : ∀ (k : Nat) (e : PV) (j : Nat) (p : PV), xs[k]? = some e → e.cells[j]? = some p → Reads κ (u' (k * i.size + j)) p)
    (hg : cap < es.length + xs.length) (hne : 0 < xs.length) (hle : (es.length + xs.length) * i.bytes ≤ 140737488355328) :
    ∃ v w' κ', κ.le κ' ∧ (Builtin.append_ #[t, t] ty #[.slice A es.length cap, .slice B xs.length cap']).run P w = .ok v w' ∧ Reads κ' v (.slice (es ++ xs) (.tok s.next)) ∧ Rep w0 κ' (s.push (.grow ((es.length + xs.length) * i.size))) w' := by
  have hW : Rep w0 κ s w.drew := h.drawn _
  obtain ⟨va, h1, h2, h3⟩ := run_firstCells (P := P) (cap := cap) hW hA hsz hΦ hr
  obtain ⟨vb, h4, h5, h6⟩ := run_firstCells (P := P) (cap := cap') hW hB hsz' hΦ' hr'
  have hrun := run_append_new (ty := ty) hd hi hz hby w h1 h4 hg hle
  have hcap : es.length + xs.length ≤ grownCap w (es.length + xs.length) cap el := by simp only [grownCap, Question.cut]; omega
  generalize hnc : grownCap w (es.length + xs.length) cap el = nc at hrun hcap
  have hzero : (Builtin.zeroCells z.cells (nc - (es.length + xs.length))).size = (nc - (es.length + xs.length)) * i.size := by simp [Builtin.zeroCells, hzs]
  generalize harr : va ++ vb ++ Builtin.zeroCells z.cells (nc - (es.length + xs.length)) = arr at hrun
  have hsize : arr.size = nc * i.size := by
    rw [← harr]
    simp only [Array.size_append, h2, h5, hzero]
    rw [← Nat.add_mul, ← Nat.add_mul]
    congr 1
    omega
  obtain ⟨hk, hrep⟩ := hW.alloc_prefix arr el (0, 0) ((es.length + xs.length) * i.size)
  have hhs : w.drew.heap.size = w.heap.size := rfl
  rw [hhs] at hk hrep
  have hused : (es.length + xs.length) * i.size ≤ arr.size := by rw [hsize]; exact Nat.mul_le_mul_right _ hcap
  have hfresh : (κ.freeze w.heap.size ((es.length + xs.length) * i.size) arr).inf s.next = none := h.fresh
  have hrep2 := hrep.take ⟨w.heap.size, arr.size⟩ (.grow ((es.length + xs.length) * i.size)) h.hB
    ⟨arr, el, alloc_heap w.drew _, rfl, hused, fun a ha ho => by
      simp only [Kr.own, Kr.freeze]
      rw [if_neg (by omega)]
      exact h.none_new a ha⟩
    (fun id' b' i' hb' hi' => by
      have := h.own_lt hb' hi'
      simp; omega)
  have hk2 := Kr.le_trans hk (Kr.le_own _ s.next ⟨w.heap.size, arr.size⟩ hfresh)
  refine ⟨_, _, _, hk2, hrun, ?_, hrep2⟩
  refine Reads.of_laid (us := arr) (size := i.size) hk2 ?_ (by simp) hcap (fun j hj => ?_) hused ⟨⟨w.heap.size, arr.size⟩, by simp [Kr.own], rfl, hsize, by omega⟩
  · rw [← harr]
    exact (h3.append h6 h2).more
  · simp only [Kr.own, Kr.freeze]
    rw [if_pos (by simp [hj])]

theorem append_sound_in (h : Rep w0 κ s w) {t el : TypeId} {ty : TypeId} (hd : P.underlying t = some (.slice el)) {i : TypeInfo} (hi : P.info? el = some i) (hpos : 0 < i.size)
    {B : Option Addr} {cap cap' : Nat} {es xs : List PV} {id used : Nat} {f : Inf} (hb : s.get id = some (.grow used)) (hf : κ.inf id = some f) (hused : used = es.length * i.size) (hcsz : f.csz = cap * i.size) {ad' : Addr} {u u' : Nat → Value}
    (hsz : ∀ e, e ∈ es → e.cells.length = i.size) (hΦ : ∀ j, j < es.length * i.size → κ.Φ ((⟨f.blk, 0, none⟩ : Addr).add j) = some (u j)) (hr : ∀ (k : Nat) (e : PV) (j : Nat) (p : PV), es[k]? = some e → e.cells[j]? = some p → Reads κ (u (k * i.size + j)) p)
    (hB : xs ≠ [] → B = some ad') (hsz' : ∀ e, e ∈ xs → e.cells.length = i.size) (hΦ' : ∀ j, j < xs.length * i.size → κ.Φ (ad'.add j) = some (u' j)) (hr' : ∀ (k : Nat) (e : PV) (j : Nat) (p : PV), xs[k]? = some e → e.cells[j]? = some p → Reads κ (u' (k * i.size + j)) p)
    (hsol : ∀ e, e ∈ xs → ∀ c, c ∈ e.cells → c.solid = true) (hg : es.length + xs.length ≤ cap) (hne : 0 < xs.length) :
    ∃ v w' κ', κ.le κ' ∧ (Builtin.append_ #[t, t] ty #[.slice (some ⟨f.blk, 0, none⟩) es.length cap, .slice B xs.length cap']).run P w = .ok v w' ∧ Reads κ' v (.slice (es ++ xs) (.tok s.next)) ∧ Rep w0 κ' ((s.set id none).push (.grow ((es.length + xs.length) * i.size))) w' := by
  obtain ⟨hB0, hbox⟩ := h.see hb hf
  obtain ⟨arr, el', g1, g2, g3, g4⟩ := hbox
  obtain ⟨vb, h4, h5, h6⟩ := run_firstCells (P := P) (cap := cap') h hB hsz' hΦ' hr'
  have hlen : vb.toList.length = xs.length * i.size := by simpa using h5
  have hfit : used + vb.toList.length ≤ arr.size := by
    rw [hlen, hused, g2, hcsz, ← Nat.add_mul]
    exact Nat.mul_le_mul_right _ hg
  have haddr : (⟨f.blk, 0, none⟩ : Addr).add (es.length * i.size) = ⟨f.blk, used, none⟩ := by rw [add_mk, hused, Nat.zero_add]
  have hz : ((⟨f.blk, 0, none⟩ : Addr).add (es.length * i.size)).add 0 = ⟨f.blk, used, none⟩ := by rw [haddr]; rfl
  obtain ⟨w', r1, r2, r3, r4, r5, r6, r7⟩ := run_storeRow (P := P) f.blk el' _ vb.toList 0 used arr w hz g1 hfit (fun v hv => by
    obtain ⟨k, hk⟩ := List.getElem?_of_mem hv
    obtain ⟨q, c, hq, hc, hrd⟩ := laid_cells h6 h5 k v (by simpa using hk)
    exact (solid_not hrd (hsol q hq c hc)).2)
  obtain ⟨κ', k1, k2, k3, k4⟩ := h.append_in hb hf g1 hfit r2 r3 r4 r5 r6 r7
  have hused' : used + vb.toList.length = (es.length + xs.length) * i.size := by rw [hlen, hused, Nat.add_mul]
  rw [hused'] at k2 k4
  refine ⟨.slice (some ⟨f.blk, 0, none⟩) (es.length + xs.length) cap, w', κ', k1, ?_, ?_, k2⟩
  · simp only [Builtin.append_]
    simp [run_underlying hd, run_sizeOf hi, Builtin.lenOf, hg, h4, r1]
  · have hold : ∀ j, j < used → κ.Φ ⟨f.blk, j, none⟩ = arr[j]? := by
      intro j hj
      have h8 := hΦ j (by omega)
      rw [add_mk, Nat.zero_add] at h8
      have h9 := h.phi _ _ h8
      simp only [World.cell?, g1] at h9
      rw [h8]
      simpa using h9.symm
    have hlaid : Laid κ (arrSet arr used vb.toList) i.size 0 (es ++ xs) := by
      intro k q hq
      by_cases hk : k < es.length
      · rw [List.getElem?_append_left hk] at hq
        refine ⟨hsz q (List.mem_of_getElem? hq), fun j c hc => ⟨u (k * i.size + j), ?_, hr k q j c hq hc⟩⟩
        have hj : j < i.size := by
          rw [← hsz q (List.mem_of_getElem? hq)]
          rcases Nat.lt_or_ge j q.cells.length with h1 | h1
          · exact h1
          · rw [List.getElem?_eq_none h1] at hc; simp at hc
        have hlt : k * i.size + j < es.length * i.size := by
          have := Nat.mul_le_mul_right i.size hk
          rw [Nat.succ_mul] at this
          omega
        have h8 := hΦ _ hlt
        rw [add_mk, Nat.zero_add, hold _ (by omega)] at h8
        rw [Nat.zero_add, arrSet_get, if_neg (by omega)]
        exact h8
      · rw [List.getElem?_append_right (by omega)] at hq
        obtain ⟨g5, g6⟩ := h6 _ q hq
        refine ⟨g5, fun j c hc => ?_⟩
        obtain ⟨v, g7, g8⟩ := g6 j c hc
        refine ⟨v, ?_, g8⟩
        have e : k * i.size = es.length * i.size + (k - es.length) * i.size := by rw [← Nat.add_mul]; congr 1; omega
        have hlt : (0 + (k - es.length)) * i.size + j < vb.size := by
          rcases Nat.lt_or_ge ((0 + (k - es.length)) * i.size + j) vb.size with h5 | h5
          · exact h5
          · rw [Array.getElem?_eq_none h5] at g7; simp at g7
        rw [Nat.zero_add] at hlt g7 ⊢
        have hvs : vb.toList.length = vb.size := by simp
        rw [arrSet_get, if_pos (by omega)]
        rw [show k * i.size + j - used = (k - es.length) * i.size + j from by omega]
        simpa using g7
    have hsz2 : (es.length + xs.length) * i.size ≤ (arrSet arr used vb.toList).size := by rw [arrSet_size, ← hused']; exact hfit
    refine Reads.of_laid (us := arrSet arr used vb.toList) (size := i.size) k1 hlaid (by simp) hg (fun j hj => k4 j hj ?_) hsz2 ⟨f, k3, rfl, hcsz, by omega⟩
    rcases Nat.lt_or_ge j used with h8 | h8
    · exact .inr (hold j h8)
    · exact .inl h8

theorem evAppend_sound (h : Rep w0 κ s w) {argTypes : Array TypeId} {a b : PV} {va vb : Value} (ha : Reads κ va a) (hb : Reads κ vb b) {s' : Sto} {ty : TypeId} (he : evAppend P s argTypes a b = some (p, s')) :
    ∃ v w' κ', κ.le κ' ∧ (Builtin.append_ argTypes ty #[va, vb]).run P w = .ok v w' ∧ Reads κ' v p ∧ Rep w0 κ' s' w' := by
  unfold evAppend at he
  split at he
  · rename_i t t' hat
    obtain rfl : argTypes = #[t, t'] := by rw [← Array.toArray_toList (xs := argTypes), hat]
    split at he
    · rename_i el hd
      split at he
      · rename_i i es g xs g' hi
        obtain ⟨A, cap, sz, ad, u, rfl, hn, hA, hg, hsz, hΦ, hr⟩ := slice_inv ha
        obtain ⟨B, cap', sz', ad', u', rfl, hn', hB, hg', hsz', hΦ', hr'⟩ := slice_inv hb
        split at he
        · split at he
          · rename_i htt
            subst htt
            simp only [Option.some.injEq, Prod.mk.injEq] at he
            obtain ⟨rfl, rfl⟩ := he
            refine ⟨_, w, κ, Kr.le_refl κ, ?_, .slice A es cap sz g ad u hn hA hg hsz hΦ hr, h⟩
            have hf : (Builtin.firstCells i.size 0 (.slice B 0 cap')).run P w = .ok #[] w := by
              cases B <;> simp [Builtin.firstCells, loadCells, loadCellsFrom]
            simp only [List.length_nil]
            cases A with
            | none => simp [Builtin.append_, run_underlying hd, run_sizeOf hi, Builtin.lenOf, hn, hf]
            | some a' => simp [Builtin.append_, run_underlying hd, run_sizeOf hi, Builtin.lenOf, hn, hf, Go.storeCells]
          · simp at he
        · rename_i x xs z hz
          split at he
          · rename_i hc
            obtain ⟨rfl, hzs, hpos, hby, hes, hxs, hsol, hle⟩ := hc
            have hesm := elemsOk_mem hes
            have hxsm := elemsOk_mem hxs
            have hs' : sz' = i.size := by rw [← hsz' x (by simp), hxsm x (by simp)]
            subst hs'
            have hss : es ≠ [] → sz = i.size := fun hne => by
              cases es with
              | nil => simp at hne
              | cons e es => rw [← hsz e (by simp), hesm e (by simp)]
            have hΦ2 : ∀ j, j < es.length * i.size → κ.Φ (ad.add j) = some (u j) := fun j hj => by
              cases es with
              | nil => simp at hj
              | cons e es => rw [← hss (by simp)] at hj; exact hΦ j hj
            have hr2 : ∀ (k : Nat) (e : PV) (j : Nat) (p : PV), es[k]? = some e → e.cells[j]? = some p → Reads κ (u (k * i.size + j)) p := fun k e j p hk hj => by
              cases es with
              | nil => simp at hk
              | cons e' es => rw [← hss (by simp)]; exact hr k e j p hk hj
            have hsolm : ∀ e, e ∈ x :: xs → ∀ c, c ∈ e.cells → c.solid = true := fun e he c hc => by
              have := List.all_eq_true.1 hsol e he
              exact List.all_eq_true.1 this c hc
            split at he
            · simp only [Option.some.injEq, Prod.mk.injEq] at he
              obtain ⟨rfl, rfl⟩ := he
              have hcap : cap = es.length := hg
              exact append_sound_new h hd hi hz hzs hpos hby hA hesm hΦ2 hr2 hB hxsm hΦ' hr' (by simp; omega) (by simp) hle
            · rename_i id
              split at he
              · rename_i used hbx
                split at he
                · rename_i hused
                  simp only [Option.some.injEq, Prod.mk.injEq] at he
                  obtain ⟨rfl, rfl⟩ := he
                  obtain ⟨f, hf, rfl, hcsz, h0⟩ := hg
                  have hne : es ≠ [] := fun e => by rw [e] at h0; simp at h0
                  have e1 := hss hne
                  subst e1
                  have had := hA hne
                  simp only [Option.some.injEq] at had
                  subst had
                  by_cases hroom : es.length + (x :: xs).length ≤ cap
                  · exact append_sound_in h hd hi hpos hbx hf hused hcsz hesm hΦ2 hr2 hB hxsm hΦ' hr' hsolm hroom (by simp)
                  · exact append_sound_new (h.kill id) hd hi hz hzs hpos hby (fun _ => rfl) hesm hΦ2 hr2 hB hxsm hΦ' hr' (by omega) (by simp) hle
                · simp at he
              · simp at he
            · simp at he
          · simp at he
        · simp at he
      · simp at he
    · simp at he
  · simp at he

end
end Go.Pv
