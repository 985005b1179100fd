import Derived.Test.YtccjfglhoghbpaaPvOp4
namespace Go.Pv
open Go Go.RowKit

section
variable {w0 : Base} {κ : Kr} {s : Sto} {w : World} {P : Program} {p : PV}

/-! ### Rows of one's own that may be written -/
/-- s[l:h] of such a row: what is known of its room is known of the piece's. -/
def evSliceO (P : Program) (t : TypeId) (a : PV) (lo hi mx : Option PV) : Option PV :=
  match P.underlying t, a, mx with
  | some (.slice el), .oslice id off n c zz, none => match P.info? el, bounds3 n (c.getD n) lo hi none with
    | some i, some (l, h, _) => match c with
      | some cp => if n ≤ cp then some (.oslice id (if cp = l then off else off + l * i.size) (h - l) (some (cp - l)) (if i.size = zz then zz else 0)) else none
      | none => if l < n then some (.oslice id (off + l * i.size) (h - l) none (if i.size = zz then zz else 0)) else none
    | _, _ => none
  | _, _, _ => none
theorem sub_room {off cap l z csz size : Nat} (hl : l ≤ cap) (h : z = 0 ∨ off + cap * z ≤ csz) : (if size = z then z else 0) = 0 ∨ off + l * size + (cap - l) * (if size = z then z else 0) ≤ csz := by
  by_cases hs : size = z
  · subst hs
    rw [if_pos rfl]
    rcases h with h | h
    · exact .inl h
    · refine .inr ?_
      have : l * size + (cap - l) * size = cap * size := by rw [← Nat.add_mul]; congr 1; omega
      omega
  · rw [if_neg hs]; exact .inl rfl
theorem evSliceO_sound {a : Act} {e : Env} (hE : EnvR κ a e) {t : TypeId} {v : Value} {q : PV} (hv : Reads κ v q) {lo hi mx : Option Operand} (he : evSliceO P t q (lo.map (evO e)) (hi.map (evO e)) (mx.map (evO e)) = some p) (w : World) :
    ∃ u, (Instr.sliceAt t v (lo.map a.eval) (hi.map a.eval) (mx.map a.eval)).run P w = .ok u w ∧ Reads κ u p := by
  unfold evSliceO at he
  split at he
  · rename_i el id off n c zz hd hmx
    obtain ⟨f, cap, hf, rfl, hn, hc, hz⟩ := oslice_inv hv
    have hmx0 : mx = none := by cases mx <;> simp_all
    subst hmx0
    split at he
    · rename_i i l h m hi hb
      have hmost : n ≤ c.getD n ∨ ¬ n ≤ c.getD n := Decidable.em _
      split at he
      · rename_i cp
        have hcp := hc cp rfl
        subst hcp
        split at he
        · simp only [Option.some.injEq] at he
          subst he
          obtain ⟨h1, h2, h3, h4, h5, h6⟩ := bounds3_sound (P := P) hE (isSlice := true) (len := n) (cap := cap) (most := cap) hn (Nat.le_refl cap) (mx := none) hb w
          have hm : m = none := h5.2 rfl
          subst hm
          refine ⟨.slice (some (if cap = l then (⟨f.blk, off, none⟩ : Addr) else (⟨f.blk, off, none⟩ : Addr).add (l * i.size))) (h - l) (cap - l), ?_, ?_⟩
          · simp only [Option.map_none, Option.getD_none] at h1
            simp [Instr.sliceAt, run_underlying hd, Instr.slice, h1, run_sizeOf hi]
            split <;> rfl
          · have : (if cap = l then (⟨f.blk, off, none⟩ : Addr) else (⟨f.blk, off, none⟩ : Addr).add (l * i.size)) = ⟨f.blk, if cap = l then off else off + l * i.size, none⟩ := by
              split
              · rfl
              · rw [add_mk]
            rw [this]
            exact .oslice id _ _ _ _ _ f hf (by omega) (fun k hk => by simp only [Option.some.injEq] at hk; exact hk) (by
              have hr := sub_room (size := i.size) (show l ≤ cap by omega) hz
              by_cases he : cap = l
              · rw [if_pos he]
                rcases hr with hr | hr
                · exact .inl hr
                · refine .inr ?_
                  have e0 : cap - l = 0 := by omega
                  rw [e0, Nat.zero_mul] at hr ⊢
                  omega
              · rw [if_neg he]; exact hr)
        · rename_i hne; exact absurd hn hne
      · split at he
        · rename_i hl
          simp only [Option.some.injEq] at he
          subst he
          simp only [Option.getD_none] at hb
          obtain ⟨h1, h2, h3, h4, h5, h6⟩ := bounds3_sound (P := P) hE (isSlice := true) (len := n) (cap := cap) (most := n) (Nat.le_refl n) hn (mx := none) hb w
          have hm : m = none := h5.2 rfl
          subst hm
          refine ⟨.slice (some ((⟨f.blk, off, none⟩ : Addr).add (l * i.size))) (h - l) (cap - l), ?_, ?_⟩
          · simp only [Option.map_none, Option.getD_none] at h1
            have : cap ≠ l := by omega
            simp [Instr.sliceAt, run_underlying hd, Instr.slice, h1, run_sizeOf hi, this]
          · rw [add_mk]
            exact .oslice id _ _ _ _ _ f hf (by omega) (fun k hk => by simp at hk) (sub_room (by omega) hz)
        · simp at he
    · simp at he
  · simp at he

/-- The cells of a row of one's own, in order. -/
def ownCells (s : Sto) (id off k : Nat) : Option (List PV) :=
  match s.get id with
  | some (.cells cs) => if off + k ≤ cs.length then some ((cs.drop off).take k) else none
  | _ => none
theorem ownCells_sound (h : Rep w0 κ s w) {id off k : Nat} {f : Inf} (hf : κ.inf id = some f) {cs : List PV} (hc : ownCells s id off k = some cs) :
    ∃ vs : List Value, (loadCells ⟨f.blk, off, none⟩ k).run P w = .ok vs.toArray w ∧ vs.length = k ∧ cs.length = k ∧ ∀ (j : Nat) (v : Value) (q : PV), vs[j]? = some v → cs[j]? = some q → Reads κ v q := by
  unfold ownCells at hc
  split at hc
  · rename_i bs hb
    split at hc
    · rename_i hle
      simp only [Option.some.injEq] at hc
      subst hc
      obtain ⟨u, h1, h2⟩ := box_cell (h.see hb hf).2 off
      refine ⟨(List.range k).map u, run_loadCells w _ k u (fun j hj => h1 j (by omega)), by simp, by simp; omega, fun j v q hv hq => ?_⟩
      rw [List.getElem?_take] at hq
      split at hq
      · rename_i hj
        rw [List.getElem?_map, List.getElem?_range hj] at hv
        simp only [Option.map_some, Option.some.injEq] at hv
        subst hv
        rw [List.getElem?_drop] at hq
        exact h2 j q hq
      · simp at hq
    · simp at hc
  · simp at hc

/-- The first k elements' cells of a slice. -/
def srcCells (s : Sto) (size k : Nat) : PV → Option (List PV)
  | .slice es _ => if elemsOk size es = true ∧ k ≤ es.length then some (flat (es.take k)) else none
  | .oslice id off n _ _ => if k ≤ n then ownCells s id off (k * size) else none
  | _ => none
def lenP : PV → Option Nat
  | .slice es _ => some es.length
  | .oslice _ _ n _ _ => some n
  | _ => none
theorem lenP_sound {v : Value} {q : PV} (hv : Reads κ v q) {n : Nat} (h : lenP q = some n) : ∃ A cap, v = .slice A n cap := by
  cases q with
  | slice es g =>
    obtain ⟨A, cap, sz, ad, u, rfl, _⟩ := slice_inv hv
    simp only [lenP, Option.some.injEq] at h
    subst h
    exact ⟨A, cap, rfl⟩
  | oslice id off m c z =>
    obtain ⟨f, cap, _, rfl, _⟩ := oslice_inv hv
    simp only [lenP, Option.some.injEq] at h
    subst h
    exact ⟨_, cap, rfl⟩
  | _ => simp [lenP] at h

theorem laid_flat {us : Array Value} {size : Nat} {es : List PV} (h : Laid κ us size 0 es) (hs : us.size = es.length * size) (hsz : ∀ e, e ∈ es → e.cells.length = size) : ∀ (j : Nat) (v : Value) (q : PV), us[j]? = some v → (flat es)[j]? = some q → Reads κ v q := by
  intro j v q hv hq
  have hlt : j < es.length * size := by
    rw [← flat_length hsz]
    rcases Nat.lt_or_ge j (flat es).length with h5 | h5
    · exact h5
    · rw [List.getElem?_eq_none h5] at hq; simp at hq
  have hpos : 0 < size := by
    rcases Nat.eq_zero_or_pos size with h0 | h0
    · subst h0; simp at hlt
    · exact h0
  have hi : j / size < es.length := by rw [Nat.div_lt_iff_lt_mul hpos]; exact hlt
  have hm : j % size < size := Nat.mod_lt _ hpos
  have e1 : j / size * size + j % size = j := by rw [Nat.mul_comm]; exact Nat.div_add_mod j size
  have hf := flat_get hsz (j / size) es[j / size] (j % size) (by simp [hi]) hm
  rw [e1, hq] at hf
  obtain ⟨_, h2⟩ := h (j / size) es[j / size] (by simp [hi])
  obtain ⟨v', h3, h4⟩ := h2 (j % size) q hf.symm
  rw [Nat.zero_add, e1, hv] at h3
  simp only [Option.some.injEq] at h3
  subst h3
  exact h4

theorem srcCells_sound (h : Rep w0 κ s w) {v : Value} {q : PV} (hv : Reads κ v q) {size k : Nat} {cs : List PV} (hc : srcCells s size k q = some cs) :
    ∃ vs : Array Value, (Builtin.firstCells size k v).run P w = .ok vs w ∧ vs.size = k * size ∧ cs.length = k * size ∧ ∀ (j : Nat) (u : Value) (r : PV), vs[j]? = some u → cs[j]? = some r → Reads κ u r := by
  cases q with
  | slice es g =>
    simp only [srcCells] at hc
    split at hc
    · rename_i hcond
      obtain ⟨hok, hk⟩ := hcond
      simp only [Option.some.injEq] at hc
      subst hc
      obtain ⟨A, cap, sz, ad, u, rfl, hn, hA, hg, hsz, hΦ, hr⟩ := slice_inv hv
      have hesm := elemsOk_mem hok
      have hss : es ≠ [] → sz = size := fun hne => by
        cases es with
        | nil => simp at hne
        | cons e es => rw [← hsz e (by simp), hesm e (by simp)]
      have htl : (es.take k).length = k := by simp; omega
      obtain ⟨vs, h1, h2, h3⟩ := run_firstCells (P := P) (A := A) (es := es.take k) (cap := cap) (sz := size) (ad := ad) (u := u) h (fun hne => hA (fun e => hne (by simp [e]))) (fun e he => hesm e (List.mem_of_mem_take he)) (fun j hj => by
          rw [htl] at hj
          have hne : es ≠ [] := fun e => by rw [e] at hk; simp at hk; subst hk; simp at hj
          rw [← hss hne] at hj
          exact hΦ j (Nat.lt_of_lt_of_le hj (Nat.mul_le_mul_right _ hk))) (fun i e j p he hp => by
          have hne : es ≠ [] := fun e0 => by rw [e0] at he; simp at he
          rw [← hss hne]
          rw [List.getElem?_take] at he
          split at he
          · exact hr i e j p he hp
          · simp at he)
      rw [htl] at h1 h2
      have hfl : (flat (es.take k)).length = k * size := by rw [flat_length (fun e he => hesm e (List.mem_of_mem_take he)), htl]
      refine ⟨vs, ?_, h2, hfl, laid_flat h3 (by rw [htl]; exact h2) (fun e he => hesm e (List.mem_of_mem_take he))⟩
      have : (Builtin.firstCells size k (.slice A es.length cap)) = Builtin.firstCells size k (.slice A k cap) := by cases A <;> rfl
      rw [this]
      exact h1
    · simp at hc
  | oslice id off n c z =>
    simp only [srcCells] at hc
    split at hc
    · obtain ⟨f, cap, hf, rfl, _⟩ := oslice_inv hv
      obtain ⟨vs, h1, h2, h3, h4⟩ := ownCells_sound (P := P) h hf hc
      exact ⟨vs.toArray, by simpa [Builtin.firstCells] using h1, by simpa using h2, h3, fun j u r hu hr => h4 j u r (by simpa using hu) hr⟩
    · simp at hc
  | _ => simp [srcCells] at hc

/-- Cells of one's own, written from a place on. -/
def ownWrite (s : Sto) (id off : Nat) (xs : List PV) : Option Sto :=
  match s.get id with
  | some (.cells cs) => if xs.all PV.solid = true ∧ off + xs.length ≤ cs.length then some (s.set id (some (.cells (writeAt cs off xs)))) else none
  | _ => none
theorem ownWrite_sound (h : Rep w0 κ s w) {id off : Nat} {f : Inf} (hf : κ.inf id = some f) {xs : List PV} {s' : Sto} (hw : ownWrite s id off xs = some s') {vs : Array Value} (hl : vs.size = xs.length) (hr : ∀ (j : Nat) (u : Value) (r : PV), vs[j]? = some u → xs[j]? = some r → Reads κ u r) {ad : Addr} (had : ad = ⟨f.blk, off, none⟩) :
    ∃ w', (storeCells ad vs.toList).run P w = .ok () w' ∧ Rep w0 κ s' w' := by
  unfold ownWrite at hw
  split at hw
  · rename_i cs hb
    split at hw
    · rename_i hc
      simp only [Option.some.injEq] at hw
      subst hw
      subst had
      have hz : (⟨f.blk, off, none⟩ : Addr).add 0 = ⟨f.blk, off, none⟩ := by simp [Addr.add]
      exact Rep.storeCells (P := P) f hf vs.toList xs cs off ⟨f.blk, off, none⟩ 0 s w h hb hz (by simpa using hl) (fun j v p hv hp => hr j v p (by simpa using hv) hp) (by simpa using hc.1) hc.2
    · simp at hw
  · simp at hw

/-- copy onto a row of one's own. -/
def evCopy (P : Program) (s : Sto) (t : TypeId) (a b : PV) : Option (PV × Sto) :=
  match P.underlying t, a, lenP b with
  | some (.slice el), .oslice id off n _ _, some m => match P.info? el with
    | some i => match srcCells s i.size (Nat.min m n) b with
      | some xs => (ownWrite s id off xs).map fun s' => (.lit (.int .i64 (Nat.min m n : Nat)), s')
      | none => none
    | none => none
  | _, _, _ => none
theorem evCopy_sound (h : Rep w0 κ s w) {t ty : TypeId} {ts : Array TypeId} (ht : ts[0]? = some t) {a b : PV} {va vb : Value} (ha : Reads κ va a) (hb : Reads κ vb b) {s' : Sto} (he : evCopy P s t a b = some (p, s')) :
    ∃ v w', (Builtin.copy_ ts ty #[va, vb]).run P w = .ok v w' ∧ Reads κ v p ∧ Rep w0 κ s' w' := by
  unfold evCopy at he
  split at he
  · rename_i el id off n c z m hd hm
    obtain ⟨f, cap, hf, rfl, _⟩ := oslice_inv ha
    obtain ⟨B, cap', rfl⟩ := lenP_sound hb hm
    split at he
    · rename_i i hi
      split at he
      · rename_i xs hx
        simp only [Option.map_eq_some_iff, Prod.mk.injEq] at he
        obtain ⟨s1, hw, rfl, rfl⟩ := he
        obtain ⟨vs, h1, h2, h3, h4⟩ := srcCells_sound (P := P) h hb hx
        obtain ⟨w', h5, h6⟩ := ownWrite_sound (P := P) h hf hw (by rw [h2, h3]) h4 rfl
        refine ⟨_, w', ?_, .lit _, h6⟩
        simp only [Builtin.copy_, ht]
        simp [run_underlying hd, run_sizeOf hi, Builtin.lenOf, h1, h5, goInt]
      · simp at he
    · simp at he
  · simp at he

/-- append to a row of one's own whose room is known: where it lies; a new row: other elements, or zeros. -/
def evAppendO (P : Program) (s : Sto) (t t' : TypeId) (a b : PV) : Option (PV × Sto) :=
  match P.underlying t, P.underlying t', a with
  | some (.slice el), some (.slice _), .oslice id off n (some c) zz => match P.info? el, lenP b with
    | some i, some m => if t = t' ∧ 0 < m ∧ 0 < i.size ∧ 0 < i.bytes then match i.zero, srcCells s i.size m b with
        | some z, some xs =>
          if n + m ≤ c then (ownWrite s id (off + n * i.size) xs).map fun s' => (.oslice id off (n + m) (some c) zz, s')
          else if (n + m) * i.bytes ≤ 140737488355328 ∧ z.cells.size = i.size then (ownCells s id off (n * i.size)).map fun old => (.oslice s.next 0 (n + m) none i.size, s.push (.cells (old ++ xs)))
          else none
        | _, _ => none
      else none
    | _, _ => none
  | some (.slice el), some (.int _), .oslice id off n (some c) _ => match P.info? el, b with
    | some i, .lit (.int .i64 m) => if 0 < m ∧ 0 < i.size ∧ 0 < i.bytes ∧ c < n + m.toNat ∧ (n + m.toNat) * i.bytes ≤ 140737488355328 then match i.zero with
        | some z => if z.cells.size = i.size then (ownCells s id off (n * i.size)).map fun old => (.oslice s.next 0 (n + m.toNat) none i.size, s.push (.cells (old ++ List.replicate (m.toNat * i.size) .any))) else none
        | none => none
      else none
    | _, _ => none
  | _, _, _ => none

theorem room_grown {z : Value} {size n m cap a b : Nat} (hzs : z.cells.size = size) (ha : a = n * size) (hb : b = m * size) (hc : n + m ≤ cap) : cap * size ≤ a + b + (Builtin.zeroCells z.cells (cap - (n + m))).size := by
  have : (Builtin.zeroCells z.cells (cap - (n + m))).size = (cap - (n + m)) * size := by simp [Builtin.zeroCells, hzs]
  rw [this, ha, hb, ← Nat.add_mul, ← Nat.add_mul]
  exact Nat.le_of_eq (by congr 1; omega)
theorem append_cells_new (h : Rep w0 κ s w) {id off n size : Nat} {f : Inf} (hf : κ.inf id = some f) {old : List PV} (hold : ownCells s id off (n * size) = some old) {vb rest : Array Value} {xs : List PV} (hvb : vb.size = xs.length) (hr : ∀ (j : Nat) (u : Value) (r : PV), vb[j]? = some u → xs[j]? = some r → Reads κ u r) (el : TypeId) {va : List Value}
    (hva : va.length = n * size) (hrd : ∀ (j : Nat) (v : Value) (q : PV), va[j]? = some v → old[j]? = some q → Reads κ v q) (hol : old.length = n * size) {m cap : Nat} (hcap : m ≤ cap) {z : Nat} (hz : cap * z ≤ va.length + vb.size + rest.size) :
    ∃ κ', κ.le κ' ∧ Reads κ' (.slice (some ⟨w.heap.size, 0, none⟩) m cap) (.oslice s.next 0 m none z) ∧ Rep w0 κ' (s.push (.cells (old ++ xs))) (w.drew.alloc (.cells (va.toArray ++ vb ++ rest) el)) := by
  have hW : Rep w0 κ s w.drew := h.drawn _
  obtain ⟨hk, hrep⟩ := hW.alloc_cells (va.toArray ++ vb ++ rest) el (old ++ xs) ⟨by simp; omega, fun j v q hv hq => by
    by_cases hj : j < n * size
    · rw [List.getElem?_append_left (by omega)] at hq
      rw [Array.getElem?_append_left (by simp; omega), Array.getElem?_append_left (by simpa [hva] using hj)] at hv
      exact hrd j v q (by simpa using hv) hq
    · rw [List.getElem?_append_right (by omega)] at hq
      have hj2 : j - old.length < xs.length := by
        rcases Nat.lt_or_ge (j - old.length) xs.length with h5 | h5
        · exact h5
        · rw [List.getElem?_eq_none h5] at hq; simp at hq
      rw [Array.getElem?_append_left (by simp; omega), Array.getElem?_append_right (by simp; omega)] at hv
      refine hr (j - old.length) v q ?_ hq
      rw [← hv]
      congr 1
      simp [hva, hol]⟩
  exact ⟨_, hk, .oslice s.next 0 m cap none z ⟨w.drew.heap.size, (va.toArray ++ vb ++ rest).size⟩ (by simp [Kr.own]) hcap (fun k hk => by simp at hk) (.inr (by simp; omega)), hrep⟩

theorem evAppendO_sound (h : Rep w0 κ s w) {t t' ty : TypeId} {a b : PV} {va vb : Value} (ha : Reads κ va a) (hb : Reads κ vb b) {s' : Sto} (he : evAppendO P s t t' a b = some (p, s')) :
    ∃ v w' κ', κ.le κ' ∧ (Builtin.append_ #[t, t'] ty #[va, vb]).run P w = .ok v w' ∧ Reads κ' v p ∧ Rep w0 κ' s' w' := by
  unfold evAppendO at he
  split at he
  · rename_i el el' id off n c zz hd hd'
    obtain ⟨f, cap, hf, rfl, hn, hcc, hzz⟩ := oslice_inv ha
    have hcap := hcc c rfl
    subst hcap
    split at he
    · rename_i i m hi hm
      obtain ⟨B, cap', rfl⟩ := lenP_sound hb hm
      split at he
      · rename_i hcond
        obtain ⟨rfl, hm0, hpos, hby⟩ := hcond
        split at he
        · rename_i z xs hz hx
          obtain ⟨vs, h1, h2, h3, h4⟩ := srcCells_sound (P := P) h hb hx
          split at he
          · rename_i hroom
            simp only [Option.map_eq_some_iff, Prod.mk.injEq] at he
            obtain ⟨s1, hw, rfl, rfl⟩ := he
            have had : (⟨f.blk, off, none⟩ : Addr).add (n * i.size) = ⟨f.blk, off + n * i.size, none⟩ := add_mk _ _ _
            obtain ⟨w', h5, h6⟩ := ownWrite_sound (P := P) h hf hw (by rw [h2, h3]) h4 had
            refine ⟨_, w', κ, Kr.le_refl κ, ?_, .oslice id off (n + m) cap (some cap) zz f hf hroom (fun k hk => by simpa using hk) hzz, h6⟩
            simp [Builtin.append_, run_underlying hd, run_sizeOf hi, Builtin.lenOf, hroom, h1, h5]
          · rename_i hroom
            split at he
            · rename_i hc2
              obtain ⟨hle, hzs⟩ := hc2
              simp only [Option.map_eq_some_iff, Prod.mk.injEq] at he
              obtain ⟨old, ho, rfl, rfl⟩ := he
              have hW : Rep w0 κ s w.drew := h.drawn _
              obtain ⟨us, g1, g2, g3, g4⟩ := ownCells_sound (P := P) hW hf ho
              obtain ⟨vs', h1', h2', h3', h4'⟩ := srcCells_sound (P := P) hW hb hx
              have hva : (Builtin.firstCells i.size n (.slice (some ⟨f.blk, off, none⟩) n cap)).run P w.drew = .ok us.toArray w.drew := by simpa [Builtin.firstCells] using g1
              have hrun := run_append_new (ty := ty) hd hi hz hby w hva h1' (by omega) hle
              have hnc : n + m ≤ grownCap w (n + m) cap el := by simp only [grownCap, Question.cut]; omega
              obtain ⟨κ', k1, k2, k3⟩ := append_cells_new (rest := Builtin.zeroCells z.cells (grownCap w (n + m) cap el - (n + m))) h hf ho (vb := vs') (by rw [h2', h3']) h4' el g2 g4 g3 hnc (z := i.size) (room_grown hzs g2 h2' hnc)
              exact ⟨_, _, κ', k1, hrun, k2, k3⟩
            · simp at he
        · simp at he
      · simp at he
    · simp at he
  · rename_i el kk id off n c zz hd hd'
    obtain ⟨f, cap, hf, rfl, hn, hcc, hzz⟩ := oslice_inv ha
    have hcap := hcc c rfl
    subst hcap
    split at he
    · rename_i i m hi
      obtain rfl := lit_inv hb
      split at he
      · rename_i hcond
        obtain ⟨hm0, hpos, hby, hroom, hle⟩ := hcond
        split at he
        · rename_i z hz
          split at he
          · rename_i hzs
            simp only [Option.map_eq_some_iff, Prod.mk.injEq] at he
            obtain ⟨old, ho, rfl, rfl⟩ := he
            have hW : Rep w0 κ s w.drew := h.drawn _
            obtain ⟨us, g1, g2, g3, g4⟩ := ownCells_sound (P := P) hW hf ho
            have hsmall : n + m.toNat ≤ 140737488355328 := Nat.le_trans (Nat.le_mul_of_pos_right _ hby) hle
            have hwr : IntKind.i64.wrap m = m := by rw [IntKind.wrap_i64]; omega
            have hnc : n + m.toNat ≤ grownCap w (n + m.toNat) cap el := by simp only [grownCap, Question.cut]; omega
            have hzc : (Builtin.zeroCells z.cells m.toNat).size = m.toNat * i.size := by simp [Builtin.zeroCells, hzs]
            obtain ⟨κ', k1, k2, k3⟩ := append_cells_new (rest := Builtin.zeroCells z.cells (grownCap w (n + m.toNat) cap el - (n + m.toNat))) h hf ho (vb := Builtin.zeroCells z.cells m.toNat) (xs := List.replicate (m.toNat * i.size) .any) (by simp [hzc]) (fun j u r _ hr => by
              have := List.mem_of_getElem? hr
              rw [List.mem_replicate] at this
              rw [this.2]; exact .any _) el g2 g4 g3 hnc (z := i.size) (room_grown hzs g2 hzc hnc)
            refine ⟨_, _, κ', k1, ?_, k2, k3⟩
            have hn' : ¬ (n + m.toNat ≤ cap) := by omega
            have hneg : ¬ (m < 0) := by omega
            have hb48 : ¬ ((281474976710656 : Int) < m * (i.bytes : Int)) := by
              have e1 : m = (m.toNat : Int) := by omega
              have e2 : m.toNat * i.bytes ≤ (n + m.toNat) * i.bytes := Nat.mul_le_mul_right _ (by omega)
              rw [e1]
              have : ((m.toNat : Int)) * (i.bytes : Int) = ((m.toNat * i.bytes : Nat) : Int) := by push_cast; rfl
              rw [this]
              omega
            have h63' : ¬ (9223372036854775807 < (n : Int) + (m.toNat : Int)) := by omega
            have h63b : ¬ (9223372036854775807 < (n : Int) + max m 0) := by omega
            have h48 := growslice_fits (show cap < n + m.toNat from hroom) hle
            have h48' : ¬ (281474976710656 < Builtin.nextslicecap (n + m.toNat) cap * i.bytes) := by omega
            have hmz : m.toNat * i.size ≠ 0 := by
              have : 0 < m.toNat := by omega
              exact Nat.ne_of_gt (Nat.mul_pos this hpos)
            have hmz1 : m.toNat ≠ 0 := by omega
            have hmz2 : i.size ≠ 0 := by omega
            have hmz3 : ¬ (m ≤ 0) := by omega
            simp [Builtin.append_, run_underlying hd, run_underlying hd', sizeOf, run_typeInfo hi, zeroValue, hz, asInt, asIntOf, hwr, hneg, hb48, hn', h63', h63b, h48', Question.forced, newRow, grownCap, choose, Sem.run, hmz1, hmz2, hmz3]
            have g1' : (loadCells ⟨f.blk, off, none⟩ (n * i.size)).run P w.drew = .ok us.toArray w.drew := g1
            simp only [Builtin.firstCells]
            rw [g1']
            have hms : ¬ (m.toNat * i.size = 0) := hmz
            simp only [Result.andThen_ok, if_neg hms, Array.append_assoc]
            rfl
          · simp at he
        · simp at he
      · simp at he
    · simp at he
  · simp at he

/-- append to an empty row, the new row one's own. -/
def evAppendN (P : Program) (s : Sto) (t t' : TypeId) (a b : PV) : Option (PV × Sto) :=
  match P.underlying t, a with
  | some (.slice el), .slice [] .full => match P.info? el, lenP b with
    | some i, some m => if t = t' ∧ 0 < i.bytes then (if m = 0 then some (.slice [] .full, s) else match i.zero, srcCells s i.size m b with
        | some z, some xs => if m * i.bytes ≤ 140737488355328 ∧ z.cells.size = i.size then some (.oslice s.next 0 m none i.size, s.push (.cells xs)) else none
        | _, _ => none) else none
    | _, _ => none
  | _, _ => none
theorem firstCells_zero (size cap : Nat) (A : Option Addr) (w : World) : (Builtin.firstCells size 0 (.slice A 0 cap)).run P w = .ok #[] w := by
  cases A with
  | none => simp [Builtin.firstCells]
  | some ad =>
    have h1 := run_loadCells (P := P) w ad 0 (fun _ => undef) (fun j hj => absurd hj (Nat.not_lt_zero j))
    simp only [Builtin.firstCells, Nat.zero_mul]
    simpa using h1
theorem evAppendN_sound (h : Rep w0 κ s w) {t t' ty : TypeId} {a b : PV} {va vb : Value} (ha : Reads κ va a) (hb : Reads κ vb b) {s' : Sto} (he : evAppendN P s t t' a b = some (p, s')) :
    ∃ v w' κ', κ.le κ' ∧ (Builtin.append_ #[t, t'] ty #[va, vb]).run P w = .ok v w' ∧ Reads κ' v p ∧ Rep w0 κ' s' w' := by
  unfold evAppendN at he
  split at he
  · rename_i el hd
    obtain ⟨A, cap, sz, ad, u, hva, hn, hA, hg, hsz, hΦ, hr⟩ := slice_inv ha
    simp only [List.length_nil] at hva hn
    have hcap : cap = 0 := hg
    subst hcap
    subst hva
    split at he
    · rename_i i m hi hm
      obtain ⟨B, cap', rfl⟩ := lenP_sound hb hm
      split at he
      · rename_i hcond
        obtain ⟨rfl, hby⟩ := hcond
        split at he
        · rename_i hm0
          subst hm0
          simp only [Option.some.injEq, Prod.mk.injEq] at he
          obtain ⟨rfl, rfl⟩ := he
          have h0 : (Builtin.firstCells i.size 0 (.slice B 0 cap')).run P w = .ok #[] w := firstCells_zero _ _ _ _
          refine ⟨.slice A 0 0, w, κ, Kr.le_refl κ, ?_, ha, h⟩
          have hst : ∀ ad : Addr, (storeCells (ad.add 0) []).run P w = .ok () w := fun ad => rfl
          cases A <;> simp [Builtin.append_, run_underlying hd, run_sizeOf hi, Builtin.lenOf, h0, hst]
        · rename_i hm0
          split at he
          · rename_i z xs hz hx
            split at he
            · rename_i hle
              obtain ⟨hle, hzs⟩ := hle
              simp only [Option.some.injEq, Prod.mk.injEq] at he
              obtain ⟨rfl, rfl⟩ := he
              have hW : Rep w0 κ s w.drew := h.drawn _
              have hva : (Builtin.firstCells i.size 0 (.slice A 0 0)).run P w.drew = .ok #[] w.drew := firstCells_zero _ _ _ _
              obtain ⟨vs, h1, h2, h3, h4⟩ := srcCells_sound (P := P) hW hb hx
              have hrun := run_append_new (ty := ty) hd hi hz hby w hva h1 (by omega) (by simpa using hle)
              rw [Nat.zero_add] at hrun
              have hnc : m ≤ grownCap w m 0 el := by simp only [grownCap, Question.cut]; omega
              obtain ⟨hk, hrep⟩ := hW.alloc_cells (#[] ++ vs ++ Builtin.zeroCells z.cells (grownCap w m 0 el - m)) el xs ⟨by simp; omega, fun j v q hv hq => by
                have hj : j < xs.length := by
                  rcases Nat.lt_or_ge j xs.length with h5 | h5
                  · exact h5
                  · rw [List.getElem?_eq_none h5] at hq; simp at hq
                rw [Array.getElem?_append_left (by simp; omega), Array.empty_append] at hv
                exact h4 j v q hv hq⟩
              exact ⟨_, _, _, hk, hrun, .oslice s.next 0 m _ none i.size ⟨w.drew.heap.size, (#[] ++ vs ++ Builtin.zeroCells z.cells (grownCap w m 0 el - m)).size⟩ (by simp [Kr.own]) hnc (fun k hk => by simp at hk) (.inr (by
                have := room_grown (n := 0) (m := m) (a := 0) hzs (by simp) h2 (by omega : 0 + m ≤ grownCap w m 0 el)
                rw [Nat.zero_add, Nat.zero_add] at this
                simpa using this)), hrep⟩
            · simp at he
          · simp at he
      · simp at he
    · simp at he
  · simp at he

end
end Go.Pv
