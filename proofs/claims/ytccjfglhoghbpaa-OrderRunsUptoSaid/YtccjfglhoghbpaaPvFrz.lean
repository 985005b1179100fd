import Derived.Test.YtccjfglhoghbpaaPvDraw2
namespace Go.Pv
open Go Go.RowKit

/-! ### What is one's own, looked at as if frozen -/
def kap (Φ : Addr → Option Value) : Kr := ⟨Φ, fun _ => none⟩

def chunks (n : Nat) : Nat → List PV → List PV
  | 0, _ => []
  | k + 1, cs => .agg (cs.take n) :: chunks n k (cs.drop n)
theorem chunks_length (n : Nat) : ∀ (k : Nat) (cs : List PV), (chunks n k cs).length = k
  | 0, _ => rfl
  | k + 1, cs => by simp [chunks, chunks_length n k]
theorem chunks_get (n : Nat) : ∀ (k : Nat) (cs : List PV) (i : Nat) (e : PV), cs.length = k * n → (chunks n k cs)[i]? = some e → e.cells.length = n ∧ ∀ j, j < n → e.cells[j]? = cs[i * n + j]?
  | 0, _, _, _, _, h => by simp [chunks] at h
  | k + 1, cs, 0, e, hl, h => by
    simp only [chunks, List.getElem?_cons_zero, Option.some.injEq] at h
    subst h
    rw [Nat.add_mul, Nat.one_mul] at hl
    refine ⟨by simp [PV.cells]; omega, fun j hj => ?_⟩
    simp [PV.cells, List.getElem?_take, hj]
  | k + 1, cs, i + 1, e, hl, h => by
    simp only [chunks, List.getElem?_cons_succ] at h
    rw [Nat.add_mul, Nat.one_mul] at hl
    obtain ⟨h1, h2⟩ := chunks_get n k (cs.drop n) i e (by simp; omega) h
    refine ⟨h1, fun j hj => ?_⟩
    rw [h2 j hj, List.getElem?_drop, Nat.add_mul, Nat.one_mul]
    congr 1
    omega
def one1 : PV → Bool
  | .agg _ => false
  | _ => true
theorem one1_cells {p : PV} (h : one1 p = true) : p.cells = [p] := by cases p <;> simp_all [one1, PV.cells]

def isAgT (P : Program) (t : TypeId) : Bool := match P.underlying t with
  | some d => isAggD d
  | none => false

def frz1 (P : Program) (s : Sto) (t : Option TypeId) (p : PV) : Option PV := match p with
  | .ptr id off => match s.get id with
    | some (.cells cs) => if cleanL (cs.drop off) = true then some (.rptr (normL (cs.drop off))) else none
    | _ => none
  | .oslice id off n _ _ => match t.bind P.underlying with
    | some (.slice el) => match P.info? el with
      | some i => match ownCells s id off (n * i.size) with
        | some cs => if cleanL cs = true then
            if isAgT P el = true then some (.slice (chunks i.size n (normL cs)) .no)
            else if i.size = 1 ∧ (normL cs).all one1 = true then some (.slice (normL cs) .no) else none
          else none
        | none => none
      | none => none
    | _ => none
  | p => if p.clean = true then some p.norm else none
def frzL (P : Program) (s : Sto) : List TypeId → List PV → Option (List PV)
  | _, [] => some []
  | ts, p :: ps => match frz1 P s ts.head? p, frzL P s ts.tail ps with
    | some q, some qs => some (q :: qs)
    | _, _ => none
def frz (P : Program) (s : Sto) (t : Option TypeId) (p : PV) : Option PV := match p with
  | .fn f a b => match frzL P s [] a, frzL P s [] b with
    | some a', some b' => some (.fn f a' b')
    | _, _ => none
  | p => frz1 P s t p
def frzs (P : Program) (s : Sto) : List TypeId → List PV → Option (List PV)
  | _, [] => some []
  | ts, p :: ps => match frz P s ts.head? p, frzs P s ts.tail ps with
    | some q, some qs => some (q :: qs)
    | _, _ => none

section
variable {P : Program} {w0 : Base} {κ : Kr} {s : Sto} {w : World} {Φ' : Addr → Option Value}

theorem slice_of_cells {f : Inf} {off n cap sz : Nat} {u : Nat → Value} {es : List PV} (hlen : es.length = n) (hn : n ≤ cap) (hsz : ∀ e, e ∈ es → e.cells.length = sz) (hΦ : ∀ j, j < n * sz → Φ' ((⟨f.blk, off, none⟩ : Addr).add j) = some (u j))
    (h : ∀ (i : Nat) (e : PV) (j : Nat) (p : PV), es[i]? = some e → e.cells[j]? = some p → Reads (kap Φ') (u (i * sz + j)) p) : Reads (kap Φ') (.slice (some ⟨f.blk, off, none⟩) n cap) (.slice es .no) := by
  subst hlen
  exact .slice (some ⟨f.blk, off, none⟩) es cap sz .no ⟨f.blk, off, none⟩ u hn (fun _ => rfl) trivial hsz hΦ h

theorem frz1_sound (h : Rep w0 κ s w) (hΦ : ∀ a v, κ.Φ a = some v → Φ' a = some v) (hown : ∀ id i b, s.get id = some b → κ.inf id = some i → ∀ a v, a.block = i.blk → w.cell? a = some v → Φ' a = some v) {v : Value} {p q : PV} {t : Option TypeId} (hv : Reads κ v p) (hb : frz1 P s t p = some q) : Reads (kap Φ') v q := by
  have other : p.clean = true → q = p.norm → Reads (kap Φ') v q := fun hc e => by rw [e]; exact hv.clean hΦ hc
  unfold frz1 at hb
  split at hb
  · rename_i id off
    obtain ⟨i, hi, rfl⟩ := ptr_inv hv
    split at hb
    · rename_i cs hcs
      split at hb
      · rename_i hc
        simp only [Option.some.injEq] at hb
        subst hb
        obtain ⟨u, h1, h2⟩ := box_cell (h.see hcs hi).2 off
        refine .rptr _ _ u (fun j hj => ?_) (fun j p hp => ?_)
        · exact hown id i _ hcs hi _ _ (by rw [add_mk]) (h1 j (by simp [normL_eq_map] at hj; omega))
        · rw [getElem?_normL, Option.map_eq_some_iff] at hp
          obtain ⟨r, hr, rfl⟩ := hp
          have hcl := (cleanL_iff _).1 hc r (List.mem_of_getElem? hr)
          rw [List.getElem?_drop] at hr
          exact (h2 j r hr).clean hΦ hcl
      · simp at hb
    · simp at hb
  · rename_i id off n c z
    obtain ⟨f, cap, hf, rfl, hn, _⟩ := oslice_inv hv
    split at hb
    · rename_i el hd
      split at hb
      · rename_i i hi
        split at hb
        · rename_i cs hcs
          split at hb
          · rename_i hcl
            unfold ownCells at hcs
            split at hcs
            · rename_i bs hbs
              split at hcs
              · rename_i hle
                simp only [Option.some.injEq] at hcs
                obtain ⟨u, h1, h2⟩ := box_cell (h.see hbs hf).2 off
                have hlen : cs.length = n * i.size := by rw [← hcs]; simp; omega
                have hread : ∀ j p, j < n * i.size → (normL cs)[j]? = some p → Reads (kap Φ') (u j) p := by
                  intro j p hj hp
                  rw [getElem?_normL, Option.map_eq_some_iff] at hp
                  obtain ⟨r, hr, rfl⟩ := hp
                  have hc := (cleanL_iff _).1 hcl r (List.mem_of_getElem? hr)
                  rw [← hcs, List.getElem?_take, if_pos hj, List.getElem?_drop] at hr
                  exact (h2 j r hr).clean hΦ hc
                have hcell : ∀ j, j < n * i.size → Φ' ((⟨f.blk, off, none⟩ : Addr).add j) = some (u j) := fun j hj => hown id f _ hbs hf _ _ (by rw [add_mk]) (h1 j (by omega))
                have hnl : (normL cs).length = n * i.size := by rw [normL_eq_map, List.length_map, hlen]
                split at hb
                · simp only [Option.some.injEq] at hb
                  subst hb
                  have hck := chunks_get i.size n (normL cs)
                  refine slice_of_cells (chunks_length _ _ _) hn (fun e he => ?_) hcell (fun k e j p he hp => ?_)
                  · obtain ⟨k, hk⟩ := List.getElem?_of_mem he
                    exact (hck k e hnl hk).1
                  · obtain ⟨g1, g2⟩ := hck k e hnl he
                    have hj : j < i.size := by
                      rw [← g1]
                      rcases Nat.lt_or_ge j e.cells.length with h5 | h5
                      · exact h5
                      · rw [List.getElem?_eq_none h5] at hp; simp at hp
                    rw [g2 j hj] at hp
                    refine hread _ _ ?_ hp
                    rw [← hnl]
                    rcases Nat.lt_or_ge (k * i.size + j) (normL cs).length with h5 | h5
                    · exact h5
                    · rw [List.getElem?_eq_none h5] at hp; simp at hp
                · split at hb
                  · rename_i hone
                    obtain ⟨hs1, hall⟩ := hone
                    simp only [Option.some.injEq] at hb
                    subst hb
                    rw [hs1, Nat.mul_one] at hnl hcell hread
                    have hm : ∀ (k : Nat) (e : PV), (normL cs)[k]? = some e → e.cells = [e] := fun k e he => one1_cells (List.all_eq_true.1 hall e (List.mem_of_getElem? he))
                    refine slice_of_cells (sz := 1) hnl hn (fun e he => ?_) (by simpa using hcell) (fun k e j p he hp => ?_)
                    · obtain ⟨k, hk⟩ := List.getElem?_of_mem he
                      rw [hm k e hk]; rfl
                    · rw [hm k e he] at hp
                      cases j with
                      | zero =>
                        simp only [List.getElem?_cons_zero, Option.some.injEq] at hp
                        subst hp
                        rw [Nat.mul_one, Nat.add_zero]
                        refine hread k _ ?_ he
                        rw [← hnl]
                        rcases Nat.lt_or_ge k (normL cs).length with h5 | h5
                        · exact h5
                        · rw [List.getElem?_eq_none h5] at he; simp at he
                      | succ j => simp at hp
                  · simp at hb
              · simp at hcs
            · simp at hcs
          · simp at hb
        · simp at hb
      · simp at hb
    · simp at hb
  · split at hb
    · rename_i hc
      simp only [Option.some.injEq] at hb
      exact other hc hb.symm
    · simp at hb
theorem frzL_sound (h : Rep w0 κ s w) (hΦ : ∀ a v, κ.Φ a = some v → Φ' a = some v) (hown : ∀ id i b, s.get id = some b → κ.inf id = some i → ∀ a v, a.block = i.blk → w.cell? a = some v → Φ' a = some v) : ∀ (ts : List TypeId) (ps qs : List PV), frzL P s ts ps = some qs → qs.length = ps.length ∧ ∀ (j : Nat) (v : Value) (q : PV), qs[j]? = some q → (∀ p, ps[j]? = some p → Reads κ v p) → Reads (kap Φ') v q
  | ts, [], qs, hb => by
    simp only [frzL, Option.some.injEq] at hb
    subst hb
    exact ⟨rfl, fun j v q hq => by simp at hq⟩
  | ts, p :: ps, qs, hb => by
    simp only [frzL] at hb
    split at hb
    · rename_i q qs' h1 h2
      simp only [Option.some.injEq] at hb
      subst hb
      obtain ⟨h3, h4⟩ := frzL_sound h hΦ hown ts.tail ps qs' h2
      refine ⟨by simp [h3], fun j v r hr hp => ?_⟩
      cases j with
      | zero =>
        simp only [List.getElem?_cons_zero, Option.some.injEq] at hr
        subst hr
        exact frz1_sound h hΦ hown (hp p (by simp)) h1
      | succ j =>
        exact h4 j v r (by simpa using hr) (fun p' hp' => hp p' (by simpa using hp'))
    · simp at hb
theorem frz_sound (h : Rep w0 κ s w) (hΦ : ∀ a v, κ.Φ a = some v → Φ' a = some v) (hown : ∀ id i b, s.get id = some b → κ.inf id = some i → ∀ a v, a.block = i.blk → w.cell? a = some v → Φ' a = some v) {v : Value} {p q : PV} {t : Option TypeId} (hv : Reads κ v p) (hb : frz P s t p = some q) : Reads (kap Φ') v q := by
  unfold frz at hb
  split at hb
  · rename_i f a b
    obtain ⟨us, vs, rfl, ha, hb2⟩ := fn_inv hv
    split at hb
    · rename_i a' b' h1 h2
      simp only [Option.some.injEq] at hb
      subst hb
      obtain ⟨h3, h4⟩ := frzL_sound h hΦ hown [] a a' h1
      obtain ⟨h5, h6⟩ := frzL_sound h hΦ hown [] b b' h2
      exact .fn f us vs a' b' (by rw [ha.1, h3]) (by rw [hb2.1, h5]) (fun j v p hv hp => h4 j v p hp (fun q hq => ha.2 j v q hv hq)) (fun j v p hv hp => h6 j v p hp (fun q hq => hb2.2 j v q hv hq))
    · simp at hb
  · exact frz1_sound h hΦ hown hv hb
theorem frzs_sound (h : Rep w0 κ s w) (hΦ : ∀ a v, κ.Φ a = some v → Φ' a = some v) (hown : ∀ id i b, s.get id = some b → κ.inf id = some i → ∀ a v, a.block = i.blk → w.cell? a = some v → Φ' a = some v) : ∀ (ts : List TypeId) (ps qs : List PV), frzs P s ts ps = some qs → qs.length = ps.length ∧ ∀ (j : Nat) (v : Value) (q : PV), qs[j]? = some q → (∀ p, ps[j]? = some p → Reads κ v p) → Reads (kap Φ') v q
  | ts, [], qs, hb => by
    simp only [frzs, Option.some.injEq] at hb
    subst hb
    exact ⟨rfl, fun j v q hq => by simp at hq⟩
  | ts, p :: ps, qs, hb => by
    simp only [frzs] at hb
    split at hb
    · rename_i q qs' h1 h2
      simp only [Option.some.injEq] at hb
      subst hb
      obtain ⟨h3, h4⟩ := frzs_sound h hΦ hown ts.tail ps qs' h2
      refine ⟨by simp [h3], fun j v r hr hp => ?_⟩
      cases j with
      | zero =>
        simp only [List.getElem?_cons_zero, Option.some.injEq] at hr
        subst hr
        exact frz_sound h hΦ hown (hp p (by simp)) h1
      | succ j =>
        exact h4 j v r (by simpa using hr) (fun p' hp' => hp p' (by simpa using hp'))
    · simp at hb
/-- The caller's own cells, looked at as if frozen. -/
theorem borrows_sound (h : Rep w0 κ s w) (ts : List TypeId) (ps qs : List PV) (hb : frzs P s ts ps = some qs) : qs.length = ps.length ∧ ∀ (j : Nat) (v : Value) (q : PV), qs[j]? = some q → (∀ p, ps[j]? = some p → Reads κ v p) → Reads (kap w.cell?) v q :=
  frzs_sound h (fun a v hv => h.phi a v hv) (fun _ _ _ _ _ _ _ _ hc => hc) ts ps qs hb
end
end Go.Pv
