import Derived.Test.YtccjfglhoghbpaaPvApp
import Derived.Test.YtccjfglhoghbpaaPvDat
import Derived.OpenShut
import Derived.JoinedCond
import Derived.Carry
namespace Go.Pv
open Go Go.RowKit Go.ChangeShapes Go.WideShapes Go.ChangeAt

section
variable {P : Program} {L : Lb}
theorem fnOk_of (hL : LbOk P L) {g : FuncId} {args : List PV} {r : PV} (h : TF P L g args r) : FnOk P g args r := by
  obtain ⟨k, hk⟩ := h
  exact (sound hL k).2.2.2.2 g args r hk

/-- The functions looked over, by one boolean. -/
def okB (P : Program) (L : Lb) (g : FuncId) : Bool := match P.funcs[g]? with
  | some fn => match fn.body with
    | some c => (fn.name != "runtime.NumGoroutine") && codeOk L (L.own g) fn.ntmps c
    | none => false
  | none => false
theorem okB_spec {g : FuncId} (h : okB P L g = true) : ∃ fn c, P.funcs[g]? = some fn ∧ fn.body = some c ∧ fn.name ≠ "runtime.NumGoroutine" ∧ codeOk L (L.own g) fn.ntmps c = true := by
  unfold okB at h
  split at h
  · rename_i fn hf
    split at h
    · rename_i c hc
      rw [Bool.and_eq_true] at h
      exact ⟨fn, c, hf, hc, by simpa using h.1, h.2⟩
    · simp at h
  · simp at h

theorem okL_of (n : Nat) (h1 : ∀ g, n ≤ g → L.ok g = false) (h2 : ∀ g, g < n → L.ok g = true → okB P L g = true) : ∀ g, L.ok g = true → ∃ fn c, P.funcs[g]? = some fn ∧ fn.body = some c ∧ fn.name ≠ "runtime.NumGoroutine" ∧ codeOk L (L.own g) fn.ntmps c = true := by
  intro g hg
  rcases Nat.lt_or_ge g n with h | h
  · exact okB_spec (h2 g h hg)
  · rw [h1 g h] at hg; simp at hg
def lookB (P : Program) (L : Lb) (n : Nat) : Bool := (List.range n).all fun g => !L.ok g || okB P L g
theorem look_of {n : Nat} (h : lookB P L n = true) : ∀ g, g < n → L.ok g = true → okB P L g = true := by
  intro g hg ho
  have := List.all_eq_true.1 h g (List.mem_range.2 hg)
  rw [ho] at this
  simpa using this

/-- Arguments read again behind the call. -/
theorem trodAll_stays {H : Type} {enc : TypeId × Value → H} (hl : laidOutB P = true) {W W' : World} (hb : Below W.heap.size W W') : ∀ (ts : List TypeId) (vs : List Value) (ds : List (DataW H)) (ps : List MemPlace),
    ts.all (fun t => P.readableRec t && decide (t < P.types.size)) = true → (∀ p ∈ ps, p.block < W.heap.size) → DataW.TrodAll enc P W 0 (fun _ => true) true ts vs ds ps → DataW.TrodAll enc P W' 0 (fun b => decide (b < W.heap.size)) true ts vs ds ps
  | [], [], [], ps, _, _, h => h
  | t :: ts, v :: vs, d :: ds, ps, ht, hp, h => by
    obtain ⟨p, q, h1, h2, rfl⟩ := h
    simp only [List.all_cons, Bool.and_eq_true, decide_eq_true_eq] at ht
    exact ⟨p, q, Below.trod hl ht.1.1 ht.1.2 h1 hb (fun x hx => hp x (by simp [hx])), trodAll_stays hl hb ts vs ds q ht.2 (fun x hx => hp x (by simp [hx])) h2, rfl⟩
  | [], [], _ :: _, _, _, _, h => h.elim
  | [], _ :: _, _, _, _, _, h => by cases h
  | _ :: _, [], _, _, _, _, h => by cases h
  | _ :: _, _ :: _, [], _, _, _, h => by cases h

/-- A law's row: what the walk gives. -/
theorem row_of {H : Type} {enc : TypeId × Value → H} {g : FuncId} {fn : Func} {s : ChangeSpec} {tb : TypeId} {pargs : List PV} {W : World} {args : Array Value} {ds gs : List (DataW H)} {before : List MemPlace}
    (hl : laidOutB P = true) (hvars : s.vars = []) (hres : fn.resultTypes = #[tb]) (hbool : P.underlying tb = some .bool) (hts : fn.params.toList.all (fun t => P.readableRec t && decide (t < P.types.size)) = true)
    (hspec : ∀ gs : List (DataW H), gs = [] → s.fn H (ds ++ gs) = { results := [.lit (.bool true)], args := ds })
    (hok : FnOk P g pargs (.lit (.bool true))) (hW : DataW.Whole enc P fn.params.toList s.vars false W args.toList ds gs before) (hargs : ReadsA (kap W.cell?) args pargs) :
    Calls P g args W fun e W' => ∃ v, e = .returned v ∧ s.post enc P fn false true false false W args v W' := by
  have hlt : ∀ p ∈ before, p.block < W.heap.size := fun p hp => hW.lt p hp
  have hW' := hW
  obtain ⟨p, q, hA, hV, hpq, _, _⟩ := hW
  rw [hvars] at hV
  have hgs : gs = [] ∧ q = [] := by
    cases gs with
    | nil => exact ⟨rfl, hV⟩
    | cons x xs => exact hV.elim
  obtain ⟨rfl, rfl⟩ := hgs
  rw [List.append_nil] at hpq
  subst hpq
  refine (hok W W.cell? args (fun _ _ h => h) hargs).2.mono fun e W' ⟨v, Φ', he, _, hv, hb, _, _⟩ => ?_
  have hvt : v = .bool true := by cases hv; rfl
  subst hvt
  subst he
  refine ⟨_, rfl, ds, [], before, [], before, [], hW', ?_, ?_, ?_, World.keptBut_mono (fun p hp => ⟨hp, .inr (.inl hp)⟩) (hb.frame (· ∈ before)), fun h => by cases h⟩
  · rw [hspec [] rfl, hres]
    exact trodAll_mk1 (shut_bool hbool _)
  · rw [hspec [] rfl]
    exact trodAll_stays hl hb _ _ _ _ hts hlt hA
  · rw [hspec [] rfl, hvars]
    exact rfl
theorem readsA_nil {κ : Kr} : ReadsA κ #[] [] := ⟨rfl, fun j v p h => by simp at h⟩
theorem readsA_of {κ : Kr} {args : Array Value} {ps : List PV} : ∀ {vs : List Value}, args.toList = vs → vs.length = ps.length → (∀ (j : Nat) (v : Value) (p : PV), vs[j]? = some v → ps[j]? = some p → Reads κ v p) → ReadsA κ args ps := by
  rintro vs rfl h1 h2
  exact ⟨by simpa using h1, fun j v p hv hp => h2 j v p (by simpa using hv) hp⟩
def ReadsL (κ : Kr) : List Value → List PV → Prop
  | [], [] => True
  | v :: vs, p :: ps => Reads κ v p ∧ ReadsL κ vs ps
  | _, _ => False
theorem ReadsL.toA {κ : Kr} {args : Array Value} {ps : List PV} (h : ReadsL κ args.toList ps) : ReadsA κ args ps := by
  have key : ∀ (vs : List Value) (ps : List PV), ReadsL κ vs ps → vs.length = ps.length ∧ ∀ (j : Nat) (v : Value) (p : PV), vs[j]? = some v → ps[j]? = some p → Reads κ v p := by
    intro vs
    induction vs with
    | nil =>
      intro ps h
      cases ps with
      | nil => exact ⟨rfl, fun j v p h => by simp at h⟩
      | cons p ps => exact h.elim
    | cons v vs ih =>
      intro ps h
      cases ps with
      | nil => exact h.elim
      | cons p ps =>
        obtain ⟨h1, h2⟩ := h
        obtain ⟨h3, h4⟩ := ih ps h2
        refine ⟨by simp [h3], fun j u q hu hq => ?_⟩
        cases j with
        | zero => simp at hu hq; subst hu; subst hq; exact h1
        | succ j => exact h4 j u q (by simpa using hu) (by simpa using hq)
  obtain ⟨h1, h2⟩ := key _ _ h
  exact readsA_of rfl h1 h2
theorem sum_len {α : Type} (f : α → Nat) (h : ∀ x, 1 ≤ f x) : ∀ xs : List α, xs.length ≤ (xs.map f).sum
  | [] => Nat.le_refl _
  | x :: xs => by have h1 := sum_len f h xs; have h2 := h x; simp only [List.length_cons, List.map_cons, List.sum_cons]; omega
theorem sum_mem {α : Type} (f : α → Nat) {x : α} : ∀ {xs : List α}, x ∈ xs → f x ≤ (xs.map f).sum
  | y :: ys, h => by
    simp only [List.map_cons, List.sum_cons]
    rcases List.mem_cons.1 h with rfl | h
    · omega
    · have := sum_mem f h; omega
end
end Go.Pv
