import Derived.Orders
import Derived.Below
namespace Go.Pv
open Go Go.RowKit

/-- What is known of a slice's room. -/
inductive Grow where
  | no
  | full
  | tok (id : Nat)
  | nil
  | ex

/-- Abstract values: no addresses; what lies in frozen memory is written out. -/
inductive PV where
  | any
  | lit (v : Value)
  | ptr (id off : Nat)
  | rptr (cs : List PV)
  | slice (es : List PV) (g : Grow)
  | oslice (id off n : Nat) (cap : Option Nat) (z : Nat)
  | agg (cs : List PV)
  | tup (cs : List PV)
  | fn (f : Fn) (fst cap : List PV)
  | map (id : Nat)

instance : Inhabited PV := ⟨.any⟩

def PV.cells : PV → List PV
  | .agg cs => cs
  | p => [p]

/-- Fields of one cell, as far as that is known. -/
def PV.solid : PV → Bool
  | .any => false
  | .lit (.agg _) => false
  | .lit (.tuple _) => false
  | .tup _ => false
  | .agg _ => false
  | _ => true

mutual
def PV.norm : PV → PV
  | .any => .any
  | .lit v => .lit v
  | .ptr i o => .ptr i o
  | .rptr cs => .rptr (normL cs)
  | .slice es _ => .slice (normL es) .no
  | .oslice i o n c z => .oslice i o n c z
  | .agg cs => .agg (normL cs)
  | .tup cs => .tup (normL cs)
  | .fn f a b => .fn f (normL a) (normL b)
  | .map i => .map i
def normL : List PV → List PV
  | [] => []
  | p :: ps => p.norm :: normL ps
end

mutual
def PV.clean : PV → Bool
  | .any => true
  | .lit _ => true
  | .ptr _ _ => false
  | .rptr cs => cleanL cs
  | .slice es _ => cleanL es
  | .oslice _ _ _ _ _ => false
  | .agg cs => cleanL cs
  | .tup cs => cleanL cs
  | .fn _ a b => cleanL a && cleanL b
  | .map _ => false
def cleanL : List PV → Bool
  | [] => true
  | p :: ps => p.clean && cleanL ps
end

theorem normL_eq_map (l : List PV) : normL l = l.map PV.norm := by
  induction l with
  | nil => simp [normL]
  | cons p ps ih => simp [normL, ih]
theorem cleanL_iff (l : List PV) : cleanL l = true ↔ ∀ p ∈ l, p.clean = true := by
  induction l with
  | nil => simp [cleanL]
  | cons p ps ih => simp [cleanL, ih]

/-- What an own block is: its number, how many cells it has. -/
structure Inf where
  blk : Nat
  csz : Nat

/-- A stage of the run: which cells are frozen, which blocks are the run's own. -/
structure Kr where
  Φ : Addr → Option Value
  inf : Nat → Option Inf

def Kr.le (κ κ' : Kr) : Prop := (∀ a v, κ.Φ a = some v → κ'.Φ a = some v) ∧ (∀ id i, κ.inf id = some i → κ'.inf id = some i)
theorem Kr.le_refl (κ : Kr) : κ.le κ := ⟨fun _ _ h => h, fun _ _ h => h⟩
theorem Kr.le_trans {a b c : Kr} (h : a.le b) (k : b.le c) : a.le c := ⟨fun x v e => k.1 x v (h.1 x v e), fun x v e => k.2 x v (h.2 x v e)⟩

def GrowOk (κ : Kr) (A : Option Addr) (n cap sz : Nat) : Grow → Prop
  | .no => True
  | .full => cap = n
  | .tok id => ∃ i, κ.inf id = some i ∧ A = some ⟨i.blk, 0, none⟩ ∧ i.csz = cap * sz ∧ 0 < n
  | .nil => A = none
  | .ex => ∃ ad, A = some ad
theorem GrowOk.mono {κ κ' : Kr} (hk : κ.le κ') {A : Option Addr} {n cap sz : Nat} {g : Grow} (h : GrowOk κ A n cap sz g) : GrowOk κ' A n cap sz g := by
  cases g with
  | no => trivial
  | full => exact h
  | tok id => obtain ⟨i, h1, h2⟩ := h; exact ⟨i, hk.2 _ _ h1, h2⟩
  | nil => exact h
  | ex => exact h

inductive Reads (κ : Kr) : Value → PV → Prop
  | any (v : Value) : Reads κ v .any
  | lit (v : Value) : Reads κ v (.lit v)
  | ptr (id off : Nat) (i : Inf) (hi : κ.inf id = some i) : Reads κ (.pointer (some ⟨i.blk, off, none⟩)) (.ptr id off)
  | rptr (ad : Addr) (cs : List PV) (u : Nat → Value) (hΦ : ∀ j, j < cs.length → κ.Φ (ad.add j) = some (u j))
      (h : ∀ (j : Nat) (p : PV), cs[j]? = some p → Reads κ (u j) p) : Reads κ (.pointer (some ad)) (.rptr cs)
  | slice (A : Option Addr) (es : List PV) (cap sz : Nat) (g : Grow) (ad : Addr) (u : Nat → Value) (hn : es.length ≤ cap)
      (hA : es ≠ [] → A = some ad) (hg : GrowOk κ A es.length cap sz g) (hsz : ∀ e, e ∈ es → e.cells.length = sz)
      (hΦ : ∀ j, j < es.length * sz → κ.Φ (ad.add j) = some (u j))
      (h : ∀ (i : Nat) (e : PV) (j : Nat) (p : PV), es[i]? = some e → e.cells[j]? = some p → Reads κ (u (i * sz + j)) p) : Reads κ (.slice A es.length cap) (.slice es g)
  | oslice (id off n cap : Nat) (c : Option Nat) (z : Nat) (i : Inf) (hi : κ.inf id = some i) (hn : n ≤ cap) (hc : ∀ k, c = some k → cap = k) (hz : z = 0 ∨ off + cap * z ≤ i.csz) : Reads κ (.slice (some ⟨i.blk, off, none⟩) n cap) (.oslice id off n c z)
  | agg (us : Array Value) (cs : List PV) (hs : us.size = cs.length) (h : ∀ (j : Nat) (v : Value) (p : PV), us[j]? = some v → cs[j]? = some p → Reads κ v p) : Reads κ (.agg us) (.agg cs)
  | tup (us : Array Value) (cs : List PV) (hs : us.size = cs.length) (h : ∀ (j : Nat) (v : Value) (p : PV), us[j]? = some v → cs[j]? = some p → Reads κ v p) : Reads κ (.tuple us) (.tup cs)
  | fn (f : Fn) (us vs : Array Value) (a b : List PV) (ha : us.size = a.length) (hb : vs.size = b.length)
      (h : ∀ (j : Nat) (v : Value) (p : PV), us[j]? = some v → a[j]? = some p → Reads κ v p) (k : ∀ (j : Nat) (v : Value) (p : PV), vs[j]? = some v → b[j]? = some p → Reads κ v p) : Reads κ (.func f us vs) (.fn f a b)
  | map (id : Nat) (i : Inf) (hi : κ.inf id = some i) : Reads κ (.map (some i.blk)) (.map id)

theorem Reads.mono {κ κ' : Kr} (hk : κ.le κ') {v : Value} {p : PV} (h : Reads κ v p) : Reads κ' v p := by
  induction h with
  | any v => exact .any v
  | lit v => exact .lit v
  | ptr id off i hi => exact .ptr id off i (hk.2 _ _ hi)
  | rptr ad cs u hΦ _ ih => exact .rptr ad cs u (fun j hj => hk.1 _ _ (hΦ j hj)) ih
  | slice A es cap sz g ad u hn hA hg hsz hΦ _ ih => exact .slice A es cap sz g ad u hn hA (hg.mono hk) hsz (fun j hj => hk.1 _ _ (hΦ j hj)) ih
  | oslice id off n cap c z i hi hn hc hz => exact .oslice id off n cap c z i (hk.2 _ _ hi) hn hc hz
  | agg us cs hs _ ih => exact .agg us cs hs ih
  | tup us cs hs _ ih => exact .tup us cs hs ih
  | fn f us vs a b ha hb _ _ ih ik => exact .fn f us vs a b ha hb ih ik
  | map id i hi => exact .map id i (hk.2 _ _ hi)

/-- Cells and abstract cells, one by one. -/
def ReadsA (κ : Kr) (us : Array Value) (cs : List PV) : Prop := us.size = cs.length ∧ ∀ (j : Nat) (v : Value) (p : PV), us[j]? = some v → cs[j]? = some p → Reads κ v p
theorem ReadsA.mono {κ κ' : Kr} (hk : κ.le κ') {us : Array Value} {cs : List PV} (h : ReadsA κ us cs) : ReadsA κ' us cs := ⟨h.1, fun j v p h1 h2 => (h.2 j v p h1 h2).mono hk⟩

/-- The first cells, at least. -/
def ReadsP (κ : Kr) (us : Array Value) (cs : List PV) : Prop := cs.length ≤ us.size ∧ ∀ (j : Nat) (v : Value) (p : PV), us[j]? = some v → cs[j]? = some p → Reads κ v p
theorem ReadsP.mono {κ κ' : Kr} (hk : κ.le κ') {us : Array Value} {cs : List PV} (h : ReadsP κ us cs) : ReadsP κ' us cs := ⟨h.1, fun j v p h1 h2 => (h.2 j v p h1 h2).mono hk⟩
theorem ReadsA.toP {κ : Kr} {us : Array Value} {cs : List PV} (h : ReadsA κ us cs) : ReadsP κ us cs := ⟨by rw [h.1]; exact Nat.le_refl _, h.2⟩

theorem PV.cells_norm (p : PV) : p.norm.cells = normL p.cells := by
  cases p <;> simp [PV.norm, PV.cells, normL]

theorem getElem?_normL (l : List PV) (j : Nat) : (normL l)[j]? = (l[j]?).map PV.norm := by
  rw [normL_eq_map, List.getElem?_map]

/-- Less said. -/
theorem Reads.norm {κ : Kr} {v : Value} {p : PV} (h : Reads κ v p) : Reads κ v p.norm := by
  induction h with
  | any v => exact .any v
  | lit v => exact .lit v
  | ptr id off i hi => exact .ptr id off i hi
  | rptr ad cs u hΦ _ ih =>
    refine .rptr ad (normL cs) u (fun j hj => hΦ j (by simpa [normL_eq_map] using hj)) (fun j p hp => ?_)
    rw [getElem?_normL, Option.map_eq_some_iff] at hp
    obtain ⟨q, hq, rfl⟩ := hp
    exact ih j q hq
  | slice A es cap sz g ad u hn hA hg hsz hΦ _ ih =>
    have hl : (normL es).length = es.length := by simp [normL_eq_map]
    have := Reads.slice (κ := κ) A (normL es) cap sz .no ad u (by omega) (fun hne => hA (fun e => hne (by simp [e, normL]))) trivial
      (fun e he => by
        rw [normL_eq_map, List.mem_map] at he
        obtain ⟨q, hq, rfl⟩ := he
        rw [PV.cells_norm, normL_eq_map, List.length_map]; exact hsz q hq)
      (fun j hj => hΦ j (by rw [← hl]; exact hj))
      (fun i e j p he hp => by
        rw [getElem?_normL, Option.map_eq_some_iff] at he
        obtain ⟨q, hq, rfl⟩ := he
        rw [PV.cells_norm, getElem?_normL, Option.map_eq_some_iff] at hp
        obtain ⟨r, hr, rfl⟩ := hp
        exact ih i q j r hq hr)
    rw [hl] at this
    exact this
  | oslice id off n cap c z i hi hn hc hz => exact .oslice id off n cap c z i hi hn hc hz
  | agg us cs hs _ ih =>
    refine .agg us (normL cs) (by simp [normL_eq_map, hs]) (fun j v p hv hp => ?_)
    rw [getElem?_normL, Option.map_eq_some_iff] at hp
    obtain ⟨q, hq, rfl⟩ := hp
    exact ih j v q hv hq
  | tup us cs hs _ ih =>
    refine .tup us (normL cs) (by simp [normL_eq_map, hs]) (fun j v p hv hp => ?_)
    rw [getElem?_normL, Option.map_eq_some_iff] at hp
    obtain ⟨q, hq, rfl⟩ := hp
    exact ih j v q hv hq
  | fn f us vs a b ha hb _ _ ih ik =>
    refine .fn f us vs (normL a) (normL b) (by simp [normL_eq_map, ha]) (by simp [normL_eq_map, hb]) (fun j v p hv hp => ?_) (fun j v p hv hp => ?_)
    · rw [getElem?_normL, Option.map_eq_some_iff] at hp
      obtain ⟨q, hq, rfl⟩ := hp
      exact ih j v q hv hq
    · rw [getElem?_normL, Option.map_eq_some_iff] at hp
      obtain ⟨q, hq, rfl⟩ := hp
      exact ik j v q hv hq
  | map id i hi => exact .map id i hi

theorem cells_clean {p : PV} (h : p.clean = true) : cleanL p.cells = true := by
  cases p <;> simp_all [PV.cells, cleanL, PV.clean]

/-- What holds nothing of the run's own needs the frozen cells alone. -/
theorem Reads.clean {κ κ' : Kr} (hk : ∀ a v, κ.Φ a = some v → κ'.Φ a = some v) {v : Value} {p : PV} (h : Reads κ v p) : p.clean = true → Reads κ' v p.norm := by
  have mem : ∀ {l : List PV}, cleanL l = true → ∀ {j : Nat} {q : PV}, l[j]? = some q → q.clean = true := fun h j q hq => (cleanL_iff _).1 h q (List.mem_of_getElem? hq)
  induction h with
  | any v => exact fun _ => .any v
  | lit v => exact fun _ => .lit v
  | ptr id off i hi => intro h; simp [PV.clean] at h
  | rptr ad cs u hΦ _ ih =>
    intro hc
    simp only [PV.clean] at hc
    refine .rptr ad (normL cs) u (fun j hj => hk _ _ (hΦ j (by simpa [normL_eq_map] using hj))) (fun j p hp => ?_)
    rw [getElem?_normL, Option.map_eq_some_iff] at hp
    obtain ⟨q, hq, rfl⟩ := hp
    exact ih j q hq (mem hc hq)
  | slice A es cap sz g ad u hn hA hg hsz hΦ _ ih =>
    intro hc
    simp only [PV.clean] at hc
    have hl : (normL es).length = es.length := by simp [normL_eq_map]
    have := Reads.slice (κ := κ') A (normL es) cap sz .no ad u (by omega) (fun hne => hA (fun e => hne (by simp [e, normL]))) trivial
      (fun e he => by
        rw [normL_eq_map, List.mem_map] at he
        obtain ⟨q, hq, rfl⟩ := he
        rw [PV.cells_norm, normL_eq_map, List.length_map]; exact hsz q hq)
      (fun j hj => hk _ _ (hΦ j (by rw [← hl]; exact hj)))
      (fun i e j p he hp => by
        rw [getElem?_normL, Option.map_eq_some_iff] at he
        obtain ⟨q, hq, rfl⟩ := he
        rw [PV.cells_norm, getElem?_normL, Option.map_eq_some_iff] at hp
        obtain ⟨r, hr, rfl⟩ := hp
        exact ih i q j r hq hr (mem (cells_clean (mem hc hq)) hr))
    rw [hl] at this
    exact this
  | oslice id off n cap c z i hi hn hc hz => intro h; simp [PV.clean] at h
  | agg us cs hs _ ih =>
    intro hc
    simp only [PV.clean] at hc
    refine .agg us (normL cs) (by simp [normL_eq_map, hs]) (fun j v p hv hp => ?_)
    rw [getElem?_normL, Option.map_eq_some_iff] at hp
    obtain ⟨q, hq, rfl⟩ := hp
    exact ih j v q hv hq (mem hc hq)
  | tup us cs hs _ ih =>
    intro hc
    simp only [PV.clean] at hc
    refine .tup us (normL cs) (by simp [normL_eq_map, hs]) (fun j v p hv hp => ?_)
    rw [getElem?_normL, Option.map_eq_some_iff] at hp
    obtain ⟨q, hq, rfl⟩ := hp
    exact ih j v q hv hq (mem hc hq)
  | fn f us vs a b ha hb _ _ ih ik =>
    intro hc
    simp only [PV.clean, Bool.and_eq_true] at hc
    refine .fn f us vs (normL a) (normL b) (by simp [normL_eq_map, ha]) (by simp [normL_eq_map, hb]) (fun j v p hv hp => ?_) (fun j v p hv hp => ?_)
    · rw [getElem?_normL, Option.map_eq_some_iff] at hp
      obtain ⟨q, hq, rfl⟩ := hp
      exact ih j v q hv hq (mem hc.1 hq)
    · rw [getElem?_normL, Option.map_eq_some_iff] at hp
      obtain ⟨q, hq, rfl⟩ := hp
      exact ik j v q hv hq (mem hc.2 hq)
  | map id i hi => intro h; simp [PV.clean] at h

end Go.Pv
