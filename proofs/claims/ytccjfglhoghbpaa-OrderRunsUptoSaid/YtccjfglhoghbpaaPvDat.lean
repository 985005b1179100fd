import Derived.Test.YtccjfglhoghbpaaPvSim
import Derived.ProofKit
import Derived.Below
import Derived.ChangeArms
namespace Go.Pv
open Go Go.RowKit

/-! ### What comes in, opened -/
/-- A measure that counts as the statements' bulk does. -/
structure Meas (H : Type) (B : DataW H → Nat) : Prop where
  one : ∀ d, 1 ≤ B d
  str : ∀ l, l.length + 1 ≤ B (.lit (.string l))
  slc : ∀ es rs, (es.map B).sum + 1 ≤ B (.slice es rs)
  agg : ∀ ps, (ps.map B).sum + 1 ≤ B (.agg ps)

structure Dat (P : Program) (t : TypeId) (α : Type) where
  enc : α → PV
  wf : α → Prop
  wt : α → Nat
  sz : Nat
  isA : Bool
  size : P.cellsOf t = sz
  cells : ∀ x, (enc x).cells.length = sz
  encA : isA = true → ∀ x, ∃ cs, enc x = .agg cs
  encS : isA = false → ∀ x, (enc x).cells = [enc x]
  shape : ∀ w r base v, Value.okWide P w r base t v → if isA = true then ∃ us, v = .agg us else v.cells = #[v]
  opens : ∀ {H : Type} (encH : TypeId × Value → H) (w : World) (fuel : Nat) (cs : List Value) (d : DataW H) (ps : List MemPlace), DataW.trod encH P w 0 (fun _ => true) true fuel t cs = some (d, ps) →
    ∃ x, wf x ∧ cs.length = sz ∧ (∀ (j : Nat) (v : Value) (p : PV), cs[j]? = some v → (enc x).cells[j]? = some p → Reads (kap w.cell?) v p) ∧ ∀ B, Meas H B → wt x ≤ B d

section
variable {P : Program} {t : TypeId}

theorem Dat.value {α : Type} (D : Dat P t α) {H : Type} {encH : TypeId × Value → H} {w w' : World} {v : Value} {r : Reach} {base : Nat} {d : DataW H} {ps : List MemPlace} (hok : Value.okWide P w' r base t v) (h : DataW.Trod encH P w 0 (fun _ => true) true t v d ps) :
    ∃ x, D.wf x ∧ Reads (kap w.cell?) v (D.enc x) ∧ ∀ B, Meas H B → D.wt x ≤ B d := by
  obtain ⟨fuel, h⟩ := h
  obtain ⟨x, h1, h2, h3, h4⟩ := D.opens encH w fuel _ d ps h
  refine ⟨x, h1, ?_, h4⟩
  have hs := D.shape w' r base v hok
  cases hA : D.isA with
  | true =>
    rw [hA] at hs
    obtain ⟨us, rfl⟩ := hs
    obtain ⟨cs, hc⟩ := D.encA hA x
    rw [hc] at h3 ⊢
    have hl := D.cells x
    rw [hc] at hl
    simp only [Value.cells, PV.cells] at *
    exact .agg us cs (by simpa [hl] using h2) (fun j v p hv hp => h3 j v p (by simpa using hv) hp)
  | false =>
    rw [hA] at hs
    have hc := D.encS hA x
    have hv : v.cells = #[v] := by simpa using hs
    rw [hv] at h3
    rw [hc] at h3
    exact h3 0 v _ rfl rfl

def kmin (k : IntKind) (n : Int) : Prop := (Lit.int k n).wf = true
def Dat.int (k : IntKind) (ht : P.underlying t = some (.int k)) (hs : P.cellsOf t = 1) : Dat P t Int where
  enc n := .lit (.int k n)
  wf n := (Lit.int k n).wf = true
  wt _ := 1
  sz := 1
  isA := false
  size := hs
  cells _ := rfl
  encA h := by simp at h
  encS _ _ := rfl
  shape w r base v h := by
    obtain ⟨n, rfl⟩ := Go.WideShapes.okWide_int ht h
    rfl
  opens := by
    intro H encH w fuel cs d ps h
    obtain ⟨n, rfl, hx, hw⟩ := DataW.trod_int ht h
    refine ⟨n, hw, rfl, fun j v p hv hp => ?_, fun B hB => hB.one _⟩
    cases j with
    | zero => simp [PV.cells] at hv hp; subst hv; subst hp; exact .lit _
    | succ j => simp at hv
def Dat.bool (ht : P.underlying t = some .bool) (hs : P.cellsOf t = 1) : Dat P t Bool where
  enc n := .lit (.bool n)
  wf _ := True
  wt _ := 1
  sz := 1
  isA := false
  size := hs
  cells _ := rfl
  encA h := by simp at h
  encS _ _ := rfl
  shape w r base v h := by
    obtain ⟨n, rfl⟩ := Go.WideShapes.okWide_bool ht h
    rfl
  opens := by
    intro H encH w fuel cs d ps h
    obtain ⟨n, rfl, hx⟩ := DataW.trod_bool ht h
    refine ⟨n, trivial, rfl, fun j v p hv hp => ?_, fun B hB => hB.one _⟩
    cases j with
    | zero => simp [PV.cells] at hv hp; subst hv; subst hp; exact .lit _
    | succ j => simp at hv
def Dat.str (ht : P.underlying t = some .string) (hs : P.cellsOf t = 1) : Dat P t ByteArray where
  enc n := .lit (.string n)
  wf _ := True
  wt s := s.size + 1
  sz := 1
  isA := false
  size := hs
  cells _ := rfl
  encA h := by simp at h
  encS _ _ := rfl
  shape w r base v h := by
    obtain ⟨n, rfl⟩ := Go.WideShapes.okWide_string ht h
    rfl
  opens := by
    intro H encH w fuel cs d ps h
    obtain ⟨n, rfl, hx, hw⟩ := DataW.trod_string ht h
    simp only [Prod.mk.injEq] at hx
    obtain ⟨rfl, rfl⟩ := hx
    refine ⟨n, trivial, rfl, fun j v p hv hp => ?_, fun B hB => ?_⟩
    · cases j with
      | zero => simp [PV.cells] at hv hp; subst hv; subst hp; exact .lit _
      | succ j => simp at hv
    · have := hB.str n.data.toList
      have e : n.data.toList.length = n.size := by rw [Array.length_toList]; rfl
      omega

theorem choose_list {α β : Type} (R : Nat → α → β → Prop) : ∀ (l : List β) (k : Nat), (∀ i b, l[i]? = some b → ∃ a, R (k + i) a b) → ∃ as : List α, as.length = l.length ∧ ∀ (i : Nat) (a : α) (b : β), as[i]? = some a → l[i]? = some b → R (k + i) a b
  | [], _, _ => ⟨[], rfl, fun i a b h => by simp at h⟩
  | b :: l, k, h => by
    obtain ⟨a, ha⟩ := h 0 b rfl
    obtain ⟨as, h1, h2⟩ := choose_list R l (k + 1) (fun i b hb => by have := h (i + 1) b (by simpa using hb); rwa [show k + 1 + i = k + (i + 1) from by omega])
    refine ⟨a :: as, by simp [h1], fun i a' b' ha' hb' => ?_⟩
    cases i with
    | zero => simp at ha' hb'; subst ha'; subst hb'; exact ha
    | succ i =>
      have := h2 i a' b' (by simpa using ha') (by simpa using hb')
      rwa [show k + 1 + i = k + (i + 1) from by omega] at this

theorem sum_le_of {α β : Type} (f : α → Nat) (g : β → Nat) : ∀ (as : List α) (bs : List β), as.length = bs.length → (∀ (i : Nat) (a : α) (b : β), as[i]? = some a → bs[i]? = some b → f a ≤ g b) → (as.map f).sum ≤ (bs.map g).sum
  | [], [], _, _ => Nat.le_refl _
  | a :: as, b :: bs, hl, h => by
    have h0 := h 0 a b rfl rfl
    have := sum_le_of f g as bs (by simpa using hl) (fun i x y hx hy => h (i + 1) x y (by simpa using hx) (by simpa using hy))
    simp only [List.map_cons, List.sum_cons]
    omega

def Dat.slice {e : TypeId} {α : Type} (ht : P.underlying t = some (.slice e)) (hs : P.cellsOf t = 1) (D : Dat P e α) : Dat P t (List α) where
  enc xs := .slice (xs.map D.enc) .no
  wf xs := ∀ x, x ∈ xs → D.wf x
  wt xs := (xs.map D.wt).sum + 1
  sz := 1
  isA := false
  size := hs
  cells _ := rfl
  encA h := by simp at h
  encS _ _ := rfl
  shape w r base v h := by
    obtain ⟨a, len, cap, rfl⟩ := Go.WideShapes.okWide_slice ht h
    rfl
  opens := by
    intro H encH w fuel cs d ps h
    rcases DataW.trod_slice ht h with ⟨rfl, hx⟩ | ⟨a, len, cap, elems, rest, n, _, rfl, hx, _, hlc, _, hlen, hel, _, _⟩
    · simp only [Prod.mk.injEq] at hx
      obtain ⟨rfl, rfl⟩ := hx
      refine ⟨[], fun x hx => by simp at hx, rfl, fun j v p hv hp => ?_, fun B hB => hB.one _⟩
      cases j with
      | zero =>
        simp [PV.cells] at hv hp; subst hv; subst hp
        exact .slice none [] 0 0 .no default (fun _ => default) (Nat.le_refl _) (fun h => absurd rfl h) trivial (fun _ h => by simp at h) (fun _ h => by simp at h) (fun i e j p h => by simp at h)
      | succ j => simp at hv
    · simp only [Prod.mk.injEq] at hx
      obtain ⟨rfl, rfl⟩ := hx
      have hone : ∀ (i : Nat) (b : DataW H × List MemPlace), elems[i]? = some b → ∃ x, D.wf x ∧ (∀ (j : Nat) (p : PV), (D.enc x).cells[j]? = some p → ∃ v, w.cell? (a.add (i * D.sz + j)) = some v ∧ Reads (kap w.cell?) v p) ∧ ∀ B, Meas H B → D.wt x ≤ B b.1 := by
        intro i b hb
        have hi : i < len := by
          rw [← hlen]
          rcases Nat.lt_or_ge i elems.length with h1 | h1
          · exact h1
          · rw [List.getElem?_eq_none h1] at hb; simp at hb
        have h1 := hel i hi
        rw [hb] at h1
        cases hc : w.cells? 0 (a.add (i * P.cellsOf e)) (P.cellsOf e) with
        | none => rw [hc] at h1; simp at h1
        | some cs' =>
          rw [hc] at h1
          simp only [Option.bind_some] at h1
          obtain ⟨_, h3, h4⟩ := World.cells?_some hc
          obtain ⟨x, g1, g2, g3, g4⟩ := D.opens encH w n cs' b.1 b.2 h1
          refine ⟨x, g1, fun j p hp => ?_, g4⟩
          have hj : j < D.sz := by
            rw [← D.cells x]
            rcases Nat.lt_or_ge j (D.enc x).cells.length with h5 | h5
            · exact h5
            · rw [List.getElem?_eq_none h5] at hp; simp at hp
          have h6 : j < cs'.length := by omega
          have h7 := h4 j (by rw [D.size]; exact hj)
          rw [add_add, D.size, List.getElem?_eq_getElem h6] at h7
          exact ⟨cs'[j], h7, g3 j _ p (by simp [h6]) hp⟩
      obtain ⟨xs, hxl, hxs⟩ := choose_list (fun i x (b : DataW H × List MemPlace) => D.wf x ∧ (∀ (j : Nat) (p : PV), (D.enc x).cells[j]? = some p → ∃ v, w.cell? (a.add (i * D.sz + j)) = some v ∧ Reads (kap w.cell?) v p) ∧ ∀ B, Meas H B → D.wt x ≤ B b.1) elems 0 (fun i b hb => by rw [Nat.zero_add]; exact hone i b hb)
      simp only [Nat.zero_add] at hxs
      have both : ∀ (i : Nat) (x : α), xs[i]? = some x → ∃ b, elems[i]? = some b := by
        intro i x hx
        have : i < elems.length := by
          rw [← hxl]
          rcases Nat.lt_or_ge i xs.length with h1 | h1
          · exact h1
          · rw [List.getElem?_eq_none h1] at hx; simp at hx
        exact ⟨elems[i], by simp [this]⟩
      refine ⟨xs, fun x hx => ?_, rfl, fun j v p hv hp => ?_, fun B hB => ?_⟩
      · obtain ⟨i, hi⟩ := List.getElem?_of_mem hx
        obtain ⟨b, hb⟩ := both i x hi
        exact (hxs i x b hi hb).1
      · cases j with
        | zero =>
          simp only [List.getElem?_cons_zero, Option.some.injEq, PV.cells] at hv hp
          subst hv; subst hp
          have hn : xs.length = len := by omega
          have := Reads.slice (κ := kap w.cell?) (some a) (xs.map D.enc) cap D.sz .no a (fun j => ((w.cell? (a.add j)).getD undef)) (by simp; omega) (fun _ => rfl) trivial (fun q hq => by
              obtain ⟨x, _, rfl⟩ := List.mem_map.1 hq
              exact D.cells x) (fun j hj => by
              have hz : 0 < D.sz := by
                rcases Nat.eq_zero_or_pos D.sz with h0 | h0
                · rw [h0] at hj; simp at hj
                · exact h0
              simp only [List.length_map] at hj
              have hi : j / D.sz < xs.length := by rw [Nat.div_lt_iff_lt_mul hz]; exact hj
              obtain ⟨b, hb⟩ := both _ _ (List.getElem?_eq_getElem hi)
              obtain ⟨_, h2, _⟩ := hxs _ _ b (List.getElem?_eq_getElem hi) hb
              have hm : j % D.sz < (D.enc xs[j / D.sz]).cells.length := by rw [D.cells]; exact Nat.mod_lt _ hz
              obtain ⟨v, h3, _⟩ := h2 (j % D.sz) _ (List.getElem?_eq_getElem hm)
              have e1 : j / D.sz * D.sz + j % D.sz = j := by rw [Nat.mul_comm]; exact Nat.div_add_mod j D.sz
              rw [e1] at h3
              simp [kap, h3]) (fun i q j p hq hp => by
              rw [List.getElem?_map, Option.map_eq_some_iff] at hq
              obtain ⟨x, hx, rfl⟩ := hq
              obtain ⟨b, hb⟩ := both _ _ hx
              obtain ⟨_, h2, _⟩ := hxs _ _ b hx hb
              obtain ⟨v, h3, h4⟩ := h2 j p hp
              simp only [h3, Option.getD_some]
              exact h4)
          rw [List.length_map, hn] at this
          exact this
        | succ j => simp at hv
      · have h1 := hB.slc (elems.map (·.1)) (rest.map (·.1))
        have h2 := sum_le_of D.wt B xs (elems.map (·.1)) (by simp [hxl]) (fun i x b hx hb => by
          rw [List.getElem?_map, Option.map_eq_some_iff] at hb
          obtain ⟨b', hb', rfl⟩ := hb
          exact (hxs i x b' hx hb').2.2 B hB)
        omega

/-- The fields of a struct from an offset on. -/
structure FDat (P : Program) (fs : List Field) (off : Nat) (α : Type) where
  enc : α → List PV
  wf : α → Prop
  wt : α → Nat
  sz : Nat
  cells : ∀ x, (enc x).length = sz
  opens : ∀ {H : Type} (encH : TypeId × Value → H) (w : World) (fuel : Nat) (cs : List Value) (ds : List (DataW H × List MemPlace)), ds.length = fs.length → off + sz ≤ cs.length → (∀ (i : Nat) (f : Field), fs[i]? = some f → DataW.trod encH P w 0 (fun _ => true) true fuel f.type ((cs.drop f.offset).take (P.cellsOf f.type)) = ds[i]?) →
    ∃ x, wf x ∧ (∀ (j : Nat) (v : Value) (p : PV), cs[off + j]? = some v → (enc x)[j]? = some p → Reads (kap w.cell?) v p) ∧ ∀ B, Meas H B → wt x ≤ (ds.map fun y => B y.1).sum

def FDat.nil (off : Nat) : FDat P [] off Unit where
  enc _ := []
  wf _ := True
  wt _ := 0
  sz := 0
  cells _ := rfl
  opens := by
    intro H encH w fuel cs ds hl _ h
    exact ⟨(), trivial, fun j v p _ hp => by simp at hp, fun B hB => Nat.zero_le _⟩
def FDat.cons {f : Field} {fs : List Field} {off : Nat} {α β : Type} (D : Dat P f.type α) (ho : f.offset = off) (R : FDat P fs (off + D.sz) β) : FDat P (f :: fs) off (α × β) where
  enc x := (D.enc x.1).cells ++ R.enc x.2
  wf x := D.wf x.1 ∧ R.wf x.2
  wt x := D.wt x.1 + R.wt x.2
  sz := D.sz + R.sz
  cells x := by rw [List.length_append, D.cells, R.cells]
  opens := by
    intro H encH w fuel cs ds hl hle h
    cases ds with
    | nil => simp at hl
    | cons d ds =>
      have h0 := h 0 f rfl
      simp only [List.getElem?_cons_zero] at h0
      obtain ⟨x, g1, g2, g3, g4⟩ := D.opens encH w fuel _ d.1 d.2 h0
      obtain ⟨y, k1, k2, k3⟩ := R.opens encH w fuel cs ds (by simpa using hl) (by omega) (fun i f' hf => by
        have := h (i + 1) f' (by simpa using hf)
        simpa using this)
      refine ⟨(x, y), ⟨g1, k1⟩, fun j v p hv hp => ?_, fun B hB => ?_⟩
      · by_cases hj : j < D.sz
        · rw [List.getElem?_append_left (by rw [D.cells]; exact hj)] at hp
          refine g3 j v p ?_ hp
          rw [List.getElem?_take, if_pos (by rw [D.size]; exact hj), List.getElem?_drop, ho]
          exact hv
        · rw [List.getElem?_append_right (by rw [D.cells]; omega), D.cells] at hp
          refine k2 (j - D.sz) v p ?_ hp
          rw [show off + D.sz + (j - D.sz) = off + j from by omega]
          exact hv
      · have h1 := g4 B hB
        have h2 := k3 B hB
        simp only [List.map_cons, List.sum_cons]
        omega

def Dat.struct {fs : Array Field} {α β : Type} (ht : P.underlying t = some (.struct fs)) (F : FDat P fs.toList 0 β) (hs : P.cellsOf t = F.sz) (to : β → α) (enc : α → List PV) (wf : α → Prop) (wt : α → Nat)
    (he : ∀ y, enc (to y) = F.enc y) (hf : ∀ y, F.wf y → wf (to y)) (hw : ∀ y, wt (to y) = F.wt y + 1) (hl : ∀ x, (enc x).length = F.sz) : Dat P t α where
  enc x := .agg (enc x)
  wf := wf
  wt := wt
  sz := F.sz
  isA := true
  size := hs
  cells x := hl x
  encA _ x := ⟨_, rfl⟩
  encS h := by simp at h
  shape w r base v h := by
    obtain ⟨cs, rfl, _⟩ := Go.WideShapes.okWide_struct ht h
    exact ⟨cs, rfl⟩
  opens := by
    intro H encH w fuel cs d ps h
    obtain ⟨xs, n, _, hx, hlen, hxl, hfs⟩ := DataW.trod_struct ht h
    simp only [Prod.mk.injEq] at hx
    obtain ⟨rfl, rfl⟩ := hx
    obtain ⟨y, h1, h2, h3⟩ := F.opens encH w n cs xs (by simpa using hxl) (by omega) (fun i f hf => hfs i f (by simpa using hf))
    refine ⟨to y, hf y h1, by omega, fun j v p hv hp => ?_, fun B hB => ?_⟩
    · simp only [PV.cells, he] at hp
      exact h2 j v p (by rw [Nat.zero_add]; exact hv) hp
    · have g1 := h3 B hB
      have g2 := hB.agg (xs.map (·.1))
      rw [List.map_map] at g2
      rw [hw]
      have : (xs.map fun y => B y.1) = xs.map (B ∘ fun x => x.1) := rfl
      rw [this] at g1
      omega
end
end Go.Pv
