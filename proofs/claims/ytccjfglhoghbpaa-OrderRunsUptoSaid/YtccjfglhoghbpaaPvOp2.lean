import Derived.Test.YtccjfglhoghbpaaPvOp
namespace Go.Pv
open Go Go.RowKit

section
variable {w0 : Base} {κ : Kr} {s : Sto} {w : World} {P : Program} {p : PV}

/-! ### Literals of structs, arrays, slices -/
def arrSet (us : Array Value) (off : Nat) : List Value → Array Value
  | [] => us
  | v :: vs => arrSet (us.setIfInBounds off v) (off + 1) vs
theorem arrSet_size (vs : List Value) : ∀ (us : Array Value) (off : Nat), (arrSet us off vs).size = us.size := by
  induction vs with
  | nil => intro us off; rfl
  | cons v vs ih => intro us off; rw [arrSet, ih]; simp
theorem foldl_arrSet (off : Nat) : ∀ (vs : List Value) (i : Nat) (us : Array Value), (vs.zipIdx i).foldl (fun cs (x : Value × Nat) => cs.setIfInBounds (off + x.2) x.1) us = arrSet us (off + i) vs
  | [], i, us => rfl
  | v :: vs, i, us => by
    simp only [List.zipIdx_cons, List.foldl_cons, arrSet]
    rw [foldl_arrSet off vs (i + 1)]
    rfl
theorem fill_step (us : Array Value) (off : Nat) (vs : Array Value) : vs.zipIdx.foldl (fun cs (x : Value × Nat) => cs.setIfInBounds (off + x.2) x.1) us = arrSet us off vs.toList := by
  rw [← Array.foldl_toList]
  have : vs.zipIdx.toList = vs.toList.zipIdx 0 := by simp
  rw [this, foldl_arrSet]
  rfl
theorem ReadsA.set {us : Array Value} {cs : List PV} (h : ReadsA κ us cs) (off : Nat) {v : Value} {q : PV} (hv : Reads κ v q) : ReadsA κ (us.setIfInBounds off v) (cs.set off q) := by
  refine ⟨by simpa using h.1, fun j u r hu hr => ?_⟩
  rw [Array.getElem?_setIfInBounds] at hu
  rw [List.getElem?_set] at hr
  split at hu
  · rename_i e
    subst e
    rw [if_pos rfl] at hr
    split at hu
    · split at hr
      · simp only [Option.some.injEq] at hu hr
        subst hu; subst hr
        exact hv
      · simp at hr
    · simp at hu
  · rename_i e
    rw [if_neg e] at hr
    exact h.2 j u r hu hr
theorem ReadsA.writeAt : ∀ (vs : List Value) (xs : List PV) (us : Array Value) (cs : List PV) (off : Nat), ReadsA κ us cs → vs.length = xs.length → (∀ (j : Nat) (v : Value) (p : PV), vs[j]? = some v → xs[j]? = some p → Reads κ v p) → ReadsA κ (arrSet us off vs) (writeAt cs off xs)
  | [], xs, us, cs, off, h, hl, _ => by
    obtain rfl : xs = [] := List.eq_nil_of_length_eq_zero (by simpa using hl.symm)
    exact h
  | v :: vs, xs, us, cs, off, h, hl, hr => by
    cases xs with
    | nil => simp at hl
    | cons x xs => exact ReadsA.writeAt vs xs _ _ (off + 1) (h.set off (hr 0 v x rfl rfl)) (by simpa using hl) (fun j u q hu hq => hr (j + 1) u q hu hq)

def fillP (place : Nat → Option (Nat × Nat)) (e : Env) (cells : List PV) : List (Nat × Operand) → Option (List PV)
  | [] => some cells
  | (i, x) :: rest => match place i, cellsOf (evO e x) with
    | some (off, size), some xs => if xs.length = size ∧ off + xs.length ≤ cells.length then fillP place e (writeAt cells off xs) rest else none
    | _, _ => none
theorem fillP_sound {place : Nat → Option (Nat × Nat)} {e : Env} {a : Act} (hE : EnvR κ a e) : ∀ (l : List (Nat × Operand)) (us : Array Value) (cs cs' : List PV), ReadsA κ us cs → fillP place e cs l = some cs' →
    ∃ us', Instr.fill place us (l.map fun q => (q.1, a.eval q.2)) = some us' ∧ ReadsA κ us' cs'
  | [], us, cs, cs', h, hf => by
    simp only [fillP, Option.some.injEq] at hf
    subst hf
    exact ⟨us, rfl, h⟩
  | (i, x) :: rest, us, cs, cs', h, hf => by
    simp only [fillP] at hf
    split at hf
    · rename_i off size xs hp hx
      split at hf
      · rename_i hc
        have hr := cellsOf_reads (hE.eval x) hx
        obtain ⟨us', h1, h2⟩ := fillP_sound hE rest (arrSet us off (a.eval x).cells.toList) (writeAt cs off xs) cs' (ReadsA.writeAt _ _ _ _ _ h (by simpa using hr.1) (fun j v p hv hp => hr.2 j v p (by simpa using hv) hp)) hf
        refine ⟨us', ?_, h2⟩
        have hsz : (a.eval x).cells.size = size := by rw [hr.1, hc.1]
        have hle : ¬ (off + (a.eval x).cells.size > us.size) := by rw [h.1, hr.1]; omega
        simp only [List.map_cons, Instr.fill, hp, hsz, ne_eq, not_true_eq_false, decide_false, Bool.false_or]
        rw [if_neg (by simpa [hsz] using hle), fill_step]
        exact h1
      · simp at hf
    · simp at hf

def placeS (P : Program) (fs : Array Field) (i : Nat) : Option (Nat × Nat) := (fs[i]?).bind fun f => (P.info? f.type).map fun t => (f.offset, t.size)
def evBuild (P : Program) (e : Env) (t : TypeId) (parts : Array (Nat × Operand)) : Option PV :=
  match P.info? t, P.underlying t with
  | some i, some (.struct fs) => match i.zero.map ofValue with
    | some (.agg cs) => if fs.all (fun f => (P.info? f.type).isSome) then (fillP (placeS P fs) e cs parts.toList).map .agg else none
    | _ => none
  | some i, some (.array _ el) => match i.zero.map ofValue, P.info? el with
    | some (.agg cs), some j => (fillP (fun i => some (i * j.size, j.size)) e cs parts.toList).map .agg
    | _, _ => none
  | _, _ => none

theorem run_places (w : World) : ∀ (l : List Field), (∀ f, f ∈ l → (P.info? f.type).isSome = true) →
    (l.mapM fun f => do pure (f.offset, ← sizeOf f.type) : Sem (List (Nat × Nat))).run P w = .ok (l.map fun f => (f.offset, ((P.info? f.type).map (·.size)).getD 0)) w
  | [], _ => rfl
  | f :: l, h => by
    obtain ⟨i, hi⟩ := Option.isSome_iff_exists.1 (h f (by simp))
    have ih := run_places w l (fun g hg => h g (by simp [hg]))
    simp only [List.mapM_cons, Sem.run_bind, run_sizeOf hi, Result.andThen_ok, Sem.run_pure, ih]
    simp [hi]

theorem zero_agg {z : Value} {cs : List PV} (h : ofValue z = .agg cs) : ReadsA κ z.cells cs := by
  have := reads_ofValue κ z
  rw [h] at this
  obtain ⟨us, rfl, hr⟩ := agg_inv this
  exact hr

theorem evBuild_sound {e : Env} {a : Act} (hE : EnvR κ a e) {t : TypeId} {parts : Array (Nat × Operand)} (he : evBuild P e t parts = some p) (w : World) :
    ∃ u, (Instr.build t (parts.map fun (i, x) => (i, a.eval x))).run P w = .ok u w ∧ Reads κ u p := by
  unfold evBuild at he
  split at he
  · rename_i i fs hi hd
    split at he
    · rename_i cs hz
      split at he
      · rename_i hall
        simp only [Option.map_eq_some_iff] at he hz
        obtain ⟨cs', hf, rfl⟩ := he
        obtain ⟨z, hz1, hz2⟩ := hz
        obtain ⟨us', h1, h2⟩ := fillP_sound hE parts.toList z.cells cs cs' (zero_agg hz2) hf
        refine ⟨.agg us', ?_, .agg us' cs' h2.1 h2.2⟩
        have hpl : (fs.mapM fun f => do pure (f.offset, ← sizeOf f.type) : Sem (Array (Nat × Nat))).run P w = .ok (fs.map fun f => (f.offset, ((P.info? f.type).map (·.size)).getD 0)) w := by
          rw [Array.mapM_eq_mapM_toList, Sem.run_map, run_places w fs.toList (fun f hf => by
            rw [Array.all_eq_true'] at hall
            exact hall f (by simpa using hf))]
          simp only [Result.andThen_ok]
          congr 1
          exact Array.ext' (by simp)
        have hfill : Instr.fill ((fs.map fun f => (f.offset, ((P.info? f.type).map (·.size)).getD 0))[·]?) z.cells (parts.toList.map fun q => (q.1, a.eval q.2)) = some us' := by
          rw [← h1]
          congr 1
          funext k
          simp only [Array.getElem?_map, placeS]
          cases hk : fs[k]? with
          | none => rfl
          | some f =>
            have := (Array.all_eq_true'.1 hall) f (Array.mem_of_getElem? hk)
            obtain ⟨ti, hti⟩ := Option.isSome_iff_exists.1 this
            simp [hti]
        simp only [Instr.build, Sem.run_bind, run_zeroValue hi hz1, Result.andThen_ok, run_underlying hd, hpl]
        rw [show (Array.map (fun x => (x.1, a.eval x.2)) parts).toList = parts.toList.map (fun q => (q.1, a.eval q.2)) from by simp]
        simp only [hfill]
        rfl
      · simp at he
    · simp at he
  · rename_i i n el hi hd
    split at he
    · rename_i cs j hz hj
      simp only [Option.map_eq_some_iff] at he hz
      obtain ⟨cs', hf, rfl⟩ := he
      obtain ⟨z, hz1, hz2⟩ := hz
      obtain ⟨us', h1, h2⟩ := fillP_sound hE parts.toList z.cells cs cs' (zero_agg hz2) hf
      refine ⟨.agg us', ?_, .agg us' cs' h2.1 h2.2⟩
      simp only [Instr.build, Sem.run_bind, run_zeroValue hi hz1, Result.andThen_ok, run_underlying hd, run_sizeOf hj]
      rw [show (Array.map (fun x => (x.1, a.eval x.2)) parts).toList = parts.toList.map (fun q => (q.1, a.eval q.2)) from by simp]
      simp only [h1]
      rfl
    · simp at he
  · simp at he

/-! A slice's literal, its elements in line. -/
def evElems (e : Env) (size : Nat) : Nat → List (Nat × Operand) → Option (List PV)
  | _, [] => some []
  | k, (i, x) :: rest => match cellsOf (evO e x) with
    | some xs => if i = k ∧ xs.length = size then (evElems e size (k + 1) rest).map (evO e x :: ·) else none
    | none => none
def evBuildSlice (P : Program) (e : Env) (t : TypeId) (len : Nat) (parts : Array (Nat × Operand)) : Option PV :=
  match P.underlying t with
  | some (.slice el) => match P.info? el with
    | some i => match i.zero, evElems e i.size 0 parts.toList with
      | some _, some es => if es.length = len ∧ len * i.size ≤ 16777216 then some (.slice es .full) else none
      | _, _ => none
    | none => none
  | _ => none

theorem cells_of_cellsOf {q : PV} {xs : List PV} (h : cellsOf q = some xs) : q.cells = xs := by
  cases q with
  | agg cs => simpa [cellsOf, PV.cells] using h
  | _ =>
    simp only [cellsOf] at h
    split at h
    · simpa [PV.cells] using h
    · simp at h

theorem arrSet_get (vs : List Value) : ∀ (us : Array Value) (off k : Nat), (arrSet us off vs)[k]? = if off ≤ k ∧ k < off + vs.length ∧ k < us.size then vs[k - off]? else us[k]? := by
  induction vs with
  | nil => intro us off k; simp only [arrSet, List.length_nil, Nat.add_zero]; rw [if_neg (by omega)]
  | cons v vs ih =>
    intro us off k
    rw [arrSet, ih]
    simp only [List.length_cons, Array.size_setIfInBounds]
    by_cases h1 : off = k
    · subst h1
      rw [if_neg (by omega)]
      rw [Array.getElem?_setIfInBounds, if_pos rfl]
      by_cases h2 : off < us.size
      · rw [if_pos h2, if_pos (by omega)]; simp
      · rw [if_neg h2, if_neg (by omega), Array.getElem?_eq_none (by omega)]
    · by_cases h2 : off + 1 ≤ k ∧ k < off + 1 + vs.length ∧ k < us.size
      · rw [if_pos h2, if_pos (by omega)]
        rw [show k - off = (k - (off + 1)) + 1 from by omega]
        rfl
      · rw [if_neg h2, if_neg (by omega), Array.getElem?_setIfInBounds, if_neg h1]

/-- All elements, cell by cell. -/
def Laid (κ : Kr) (us : Array Value) (size k : Nat) (es : List PV) : Prop := ∀ (i : Nat) (q : PV), es[i]? = some q → q.cells.length = size ∧ ∀ (j : Nat) (c : PV), q.cells[j]? = some c → ∃ v, us[(k + i) * size + j]? = some v ∧ Reads κ v c

theorem evElems_sound {e : Env} {a : Act} (hE : EnvR κ a e) (size : Nat) : ∀ (l : List (Nat × Operand)) (k : Nat) (es : List PV) (us : Array Value), evElems e size k l = some es → (k + l.length) * size ≤ us.size →
    ∃ us', Instr.fill (fun i => some (i * size, size)) us (l.map fun q => (q.1, a.eval q.2)) = some us' ∧ us'.size = us.size ∧ es.length = l.length ∧ Laid κ us' size k es ∧ ∀ j, j < k * size → us'[j]? = us[j]?
  | [], k, es, us, h, _ => by
    simp only [evElems, Option.some.injEq] at h
    subst h
    exact ⟨us, rfl, rfl, rfl, fun i q hq => by simp at hq, fun _ _ => rfl⟩
  | (i, x) :: rest, k, es, us, h, hle => by
    simp only [evElems] at h
    split at h
    · rename_i xs hx
      split at h
      · rename_i hc
        obtain ⟨rfl, hc2⟩ := hc
        simp only [Option.map_eq_some_iff] at h
        obtain ⟨es', hes, rfl⟩ := h
        have hr := cellsOf_reads (hE.eval x) hx
        simp only [List.length_cons] at hle
        have hle' : (i + 1) * size ≤ us.size := Nat.le_trans (Nat.mul_le_mul_right _ (by omega)) hle
        rw [Nat.add_mul] at hle'
        obtain ⟨us', h1, h2, h3, h4, h5⟩ := evElems_sound hE size rest (i + 1) es' (arrSet us (i * size) (a.eval x).cells.toList) hes (by rw [arrSet_size]; rw [show i + 1 + rest.length = i + (rest.length + 1) by omega]; exact hle)
        rw [arrSet_size] at h2
        have hsz : (a.eval x).cells.size = size := by rw [hr.1, hc2]
        refine ⟨us', ?_, h2, by simp [h3], ?_, fun j hj => ?_⟩
        · simp only [List.map_cons, Instr.fill, hsz, ne_eq, not_true_eq_false, decide_false, Bool.false_or]
          rw [if_neg (by simp; omega), fill_step]
          exact h1
        · intro m q hq
          cases m with
          | zero =>
            simp only [List.getElem?_cons_zero, Option.some.injEq] at hq
            subst hq
            rw [cells_of_cellsOf hx]
            refine ⟨hc2, fun j c hcj => ?_⟩
            have hjl : j < xs.length := by
              rcases Nat.lt_or_ge j xs.length with hh | hh
              · exact hh
              · rw [List.getElem?_eq_none hh] at hcj; simp at hcj
            have hj2 : j < (a.eval x).cells.size := by omega
            refine ⟨(a.eval x).cells[j], ?_, hr.2 j _ c (by simp [hj2]) hcj⟩
            rw [h5 _ (by have := Nat.add_mul i 1 size; simp only [Nat.add_zero]; omega), arrSet_get, if_pos (by simp; omega)]
            rw [show (i + 0) * size + j - i * size = j from by simp]
            simp [hj2]
          | succ m =>
            simp only [List.getElem?_cons_succ] at hq
            obtain ⟨g1, g2⟩ := h4 m q hq
            refine ⟨g1, fun j c hcj => ?_⟩
            obtain ⟨v, g3, g4⟩ := g2 j c hcj
            exact ⟨v, by rw [show i + (m + 1) = i + 1 + m from by omega]; exact g3, g4⟩
        · rw [h5 j (Nat.lt_of_lt_of_le hj (Nat.mul_le_mul_right _ (by omega))), arrSet_get, if_neg (by omega)]
      · simp at h
    · simp at h

/-- A frozen row of elements reads as a slice. -/
theorem Reads.of_laid {κ' : Kr} {us : Array Value} {size n cap : Nat} {es : List PV} {b : Nat} {g : Grow} (hk : κ.le κ') (hl : Laid κ us size 0 es) (hlen : es.length = n) (hcap : n ≤ cap) (hu : ∀ j, j < n * size → κ'.Φ ⟨b, j, none⟩ = us[j]?)
    (hsz : n * size ≤ us.size) (hg : GrowOk κ' (some ⟨b, 0, none⟩) n cap size g) : Reads κ' (.slice (some ⟨b, 0, none⟩) n cap) (.slice es g) := by
  subst hlen
  refine .slice _ es cap size g ⟨b, 0, none⟩ (fun j => us.getD j undef) hcap (fun _ => rfl) hg (fun e he => ?_) (fun j hj => ?_) (fun i e j p he hp => ?_)
  · obtain ⟨i, hi⟩ := List.getElem?_of_mem he
    exact (hl i e hi).1
  · rw [add_mk, Nat.zero_add, hu j hj]
    have : j < us.size := by omega
    simp [this]
  · obtain ⟨h1, h2⟩ := hl i e he
    obtain ⟨v, h3, h4⟩ := h2 j p hp
    rw [Nat.zero_add] at h3
    have : us.getD (i * size + j) undef = v := by simp [h3]
    rw [this]
    exact h4.mono hk

theorem Rep.alloc_prefix (h : Rep w0 κ s w) (arr : Array Value) (el : TypeId) (fr : Nat × Nat) (n : Nat) :
    κ.le (κ.freeze w.heap.size n arr) ∧ Rep w0 (κ.freeze w.heap.size n arr) s (w.alloc (.cells arr el fr)) := by
  have hk : κ.le (κ.freeze w.heap.size n arr) := by
    refine ⟨fun a v hv => ?_, fun _ _ hi => hi⟩
    have := h.phi_lt hv
    simp only [Kr.freeze]
    rw [if_neg (by omega)]
    exact hv
  refine ⟨hk, h.grow1 _ hk (fun a v hv => ?_) (fun _ _ hi => hi)⟩
  simp only [Kr.freeze] at hv
  split at hv
  · rename_i hc
    refine .inr ⟨hc.1, ?_⟩
    simp only [World.cell?, hc.1, alloc_heap]
    simp [hc.2.2, hv]
  · exact .inl hv

theorem evBuildSlice_sound (h : Rep w0 κ s w) {e : Env} {a : Act} (hE : EnvR κ a e) {t : TypeId} {len : Nat} {parts : Array (Nat × Operand)} (he : evBuildSlice P e t len parts = some p) :
    ∃ u w' κ', κ.le κ' ∧ (Instr.buildSlice t len (parts.map fun (i, x) => (i, a.eval x))).run P w = .ok u w' ∧ Reads κ' u p ∧ Rep w0 κ' s w' := by
  unfold evBuildSlice at he
  split at he
  · rename_i el hd
    split at he
    · rename_i i hi
      split at he
      · rename_i z es hz hes
        split at he
        · rename_i hc
          obtain ⟨hc1, hc2⟩ := hc
          simp only [Option.some.injEq] at he
          subst he
          let zc : Array Value := if len * i.size = 0 then #[] else z.cells
          let init : Array Value := (Array.range (len * i.size)).map (fun k => zc[k % zc.size]!)
          have hinit : init.size = len * i.size := by simp [init]
          have hll : parts.toList.length = len := by
            have := evElems_sound hE i.size parts.toList 0 es (Array.replicate (parts.toList.length * i.size) undef) hes (by simp)
            obtain ⟨_, _, _, h3, _⟩ := this
            omega
          obtain ⟨us', h1, h2, h3, h4, _⟩ := evElems_sound hE i.size parts.toList 0 es init hes (by rw [hinit, hll]; simp)
          obtain ⟨hk, hr⟩ := h.alloc_prefix us' el (0, 0) (len * i.size)
          refine ⟨.slice (some ⟨w.heap.size, 0, none⟩) len len, w.alloc (.cells us' el), _, hk, ?_, Reads.of_laid hk h4 hc1 (Nat.le_refl _) (fun j hj => ?_) (by rw [h2, hinit]; exact Nat.le_refl _) rfl, hr⟩
          · have hgt : ¬ (len * i.size > 2 ^ 24) := by omega
            have hl : (Array.map (fun x => (x.1, a.eval x.2)) parts).toList = parts.toList.map (fun q => (q.1, a.eval q.2)) := by simp
            by_cases h0 : len * i.size = 0
            · have hin : Array.map (fun x => (#[] : Array Value)[x % (#[] : Array Value).size]!) (Array.range (len * i.size)) = init := by simp only [init, zc, if_pos h0]
              simp only [Instr.buildSlice, Sem.run_bind, run_underlying hd, Result.andThen_ok, run_sizeOf hi, if_neg hgt, Sem.run_pure, if_pos h0, hl, hin, h1]
              rfl
            · have hin : Array.map (fun x => z.cells[x % z.cells.size]!) (Array.range (len * i.size)) = init := by simp only [init, zc, if_neg h0]
              simp only [Instr.buildSlice, Sem.run_bind, run_underlying hd, Result.andThen_ok, run_sizeOf hi, if_neg hgt, Sem.run_pure, if_neg h0, run_zeroValue hi hz, hl, hin, h1]
              rfl
          · simp only [Kr.freeze]
            rw [if_pos (by simp [hj])]
        · simp at he
      · simp at he
    · simp at he
  · simp at he

end
end Go.Pv
