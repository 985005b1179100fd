import Derived.Test.YtccjfglhoghbpaaInA
namespace Go.Proofs.TryF
open Go Go.Pv
set_option linter.unusedSimpArgs false
set_option linter.unusedVariables false
set_option maxHeartbeats 4000000
noncomputable def lb0 : Lb := { ok := fun g => g == 19 || g == 20 || g == 21 || g == 24, wr := fun _ => false, intr := fun g => if g = 29 ∨ g = 31 then some tOver else none, own := fun g => g == 19 || g == 20 || g == 21 || g == 24 }
noncomputable def lb : Lb := { ok := fun g => Nat.ble 3 g && Nat.ble g 33 && !(Nat.ble 19 g && Nat.ble g 21) && !(g == 24) && !(Nat.ble 29 g && Nat.ble g 32), wr := fun g => g == 19 || g == 20 || g == 21 || g == 24, intr := fun g => if g = 19 then some (tIns Try.prog 33 1 8) else if g = 20 then some (tClone 1 8) else if g = 21 then some (tClone 3 40) else if g = 24 then some (tIns Try.prog 22 3 40) else none, ps := fun g => g == 20 || g == 21 }
abbrev I (n : Int) : PV := .lit (.int .i64 n)
abbrev B (b : Bool) : PV := .lit (.bool b)
abbrev SlI (xs : List Int) : PV := .slice (xs.map I) .no
structure Mk where
  o : Int
  u : Int
  ab : List Int
deriving DecidableEq
abbrev mc (m : Mk) : List PV := [I m.o, I m.u, SlI m.ab]
abbrev enc (m : Mk) : PV := .agg [I m.o, I m.u, SlI m.ab]
abbrev SlM (ms : List Mk) : PV := .slice (ms.map enc) .no
/-- The first place, or -1. -/
def idx {α : Type} (p : α → Bool) (xs : List α) : Int := if xs.findIdx p < xs.length then (xs.findIdx p : Int) else -1
def W64 (n : Nat) : Prop := n ≤ 1099511627776

@[simp] theorem clI (xs : List Int) : cleanL (xs.map I) = true := cleanL_map xs I (fun _ => rfl)
@[simp] theorem noI (xs : List Int) : normL (xs.map I) = xs.map I := normL_map xs I (fun _ => rfl)
@[simp] theorem clM (xs : List Mk) : cleanL (xs.map enc) = true := cleanL_map xs enc (fun _ => by simp [enc, PV.clean, cleanL])
@[simp] theorem noM (xs : List Mk) : normL (xs.map enc) = xs.map enc := normL_map xs enc (fun _ => by simp [enc, PV.norm, normL])
@[simp] theorem okI (xs : List Int) : elemsOk 1 (xs.map I) = true := elemsOk_map 1 xs I (fun _ => rfl)
@[simp] theorem okM (xs : List Mk) : elemsOk 3 (xs.map enc) = true := elemsOk_map 3 xs enc (fun _ => rfl)
theorem wrapN {n : Nat} (h : n < 9223372036854775807) : IntKind.i64.wrap ((n : Int) + 1) = ((n + 1 : Nat) : Int) := by rw [wrap_id (by omega) (by omega)]; rfl

theorem tf33 (xs : List Int) (a : Int) (hx : W64 xs.length) : TF Try.prog lb 33 [SlI xs, I a] (I (idx (fun x => decide (x = a)) xs)) := by
  refine TF_of rfl Try.func33 rfl ?_
  unfold WF W64 at *
  simp
  refine TL_loop (fun n e s => ∃ i : Nat, i ≤ xs.findIdx (fun x => decide (x = a)) ∧ n = xs.length - i ∧ e 0 = SlI xs ∧ e 1 = I a ∧ e 7 = I xs.length ∧ e 8 = I i ∧ s = sF false) ?_ xs.length _ _ ⟨0, by simp [show lb.own 33 = false from rfl]⟩
  rintro n e s ⟨i, hi, rfl, h0, h1, h7, h8, rfl⟩
  by_cases hlt : i < xs.length
  · by_cases heq : xs[i] = a
    · have : xs.findIdx (fun x => decide (x = a)) = i := by
        rcases Nat.lt_or_ge i (xs.findIdx (fun x => decide (x = a))) with h | h
        · have := List.not_of_lt_findIdx h
          simp [heq] at this
        · omega
      simp [h0, h1, h7, h8, hlt, heq, idx, this]
    · have : i + 1 ≤ xs.findIdx (fun x => decide (x = a)) := by
        rcases Nat.lt_or_ge i (xs.findIdx (fun x => decide (x = a))) with h | h
        · exact h
        · have e : xs.findIdx (fun x => decide (x = a)) = i := by omega
          have := List.findIdx_getElem (p := fun x => decide (x = a)) (xs := xs) (w := by rw [e]; exact hlt)
          simp only [e] at this
          simp [heq] at this
      have heq' : ¬ a = xs[i] := fun h => heq h.symm
      simp [h0, h1, h7, h8, hlt, heq', wrapN (show i < 9223372036854775807 by omega)]
      exact ⟨xs.length - (i + 1), by omega, i + 1, this, rfl, by simp⟩
  · have e : xs.findIdx (fun x => decide (x = a)) = xs.length := by
      have := List.findIdx_le_length (p := fun x => decide (x = a)) (xs := xs)
      omega
    simp [h0, h1, h7, h8, hlt, idx, e]

theorem findIdx_at {α : Type} {p : α → Bool} {xs : List α} {i : Nat} (hlt : i < xs.length) (hi : i ≤ xs.findIdx p) : (p xs[i] = true ∧ xs.findIdx p = i) ∨ (p xs[i] = false ∧ i + 1 ≤ xs.findIdx p) := by
  cases hp : p xs[i] with
  | true =>
    refine .inl ⟨rfl, ?_⟩
    rcases Nat.lt_or_ge i (xs.findIdx p) with h | h
    · have := List.not_of_lt_findIdx h
      simp [hp] at this
    · omega
  | false =>
    refine .inr ⟨rfl, ?_⟩
    rcases Nat.lt_or_ge i (xs.findIdx p) with h | h
    · exact h
    · have e : xs.findIdx p = i := by omega
      have := List.findIdx_getElem (p := p) (xs := xs) (w := by rw [e]; exact hlt)
      simp only [e] at this
      simp [hp] at this
theorem findIdx_end {α : Type} {p : α → Bool} {xs : List α} {i : Nat} (hlt : ¬ i < xs.length) (hi : i ≤ xs.findIdx p) : xs.findIdx p = xs.length := by
  have := List.findIdx_le_length (p := p) (xs := xs)
  omega
theorem idx_contains (xs : List Int) (a : Int) : decide (0 ≤ idx (fun x => decide (x = a)) xs) = xs.contains a := by
  unfold idx
  by_cases h : a ∈ xs
  · have : xs.findIdx (fun x => decide (x = a)) < xs.length := List.findIdx_lt_length.2 ⟨a, h, by simp⟩
    simp [this, h]
  · have : ¬ xs.findIdx (fun x => decide (x = a)) < xs.length := fun h2 => by
      obtain ⟨x, h3, h4⟩ := List.findIdx_lt_length.1 h2
      simp at h4
      subst h4
      exact h h3
    simp [this, h]
theorem tf26 (xs : List Int) (a : Int) (hx : W64 xs.length) : TF Try.prog lb 26 [SlI xs, I a] (B (xs.contains a)) := by
  refine TF_of rfl Try.func26 rfl ?_
  unfold WF
  simp
  refine TC_pure rfl rfl (by simp) (by simpa using tf33 xs a hx) ?_
  have := idx_contains xs a
  simp
  rw [Bool.eq_iff_iff] at this
  simpa using this
theorem tf18 (x n : Int) : TF Try.prog lb 18 [I x, .rptr [I n]] (B (decide (n < x))) := by
  refine TF_of rfl Try.func18 rfl ?_
  unfold WF
  simp
theorem tf23 (m : Mk) (n : Int) : TF Try.prog lb 23 [enc m, .rptr [I n]] (B (decide (n < m.o))) := by
  refine TF_of rfl Try.func23 rfl ?_
  unfold WF
  simp
theorem tf28 (m : Mk) (n : Int) : TF Try.prog lb 28 [enc m, .rptr [I n]] (B (decide (m.o = n))) := by
  refine TF_of rfl Try.func28 rfl ?_
  unfold WF
  simp

theorem tf17 (xs : List Int) (n : Int) (hx : W64 xs.length) : TF Try.prog lb 17 [SlI xs, .fn (.func 18) [] [.rptr [I n]]] (I (idx (fun x => decide (n < x)) xs)) := by
  refine TF_of rfl Try.func17 rfl ?_
  unfold WF W64 at *
  simp
  refine TL_loop (fun k e s => ∃ i : Nat, i ≤ xs.findIdx (fun x => decide (n < x)) ∧ k = xs.length - i ∧ e 0 = SlI xs ∧ e 1 = .fn (.func 18) [] [.rptr [I n]] ∧ e 7 = I xs.length ∧ e 8 = I i ∧ s = sF false) ?_ xs.length _ _ ⟨0, by simp [show lb.own 17 = false from rfl]⟩
  rintro k e s ⟨i, hi, rfl, h0, h1, h7, h8, rfl⟩
  by_cases hlt : i < xs.length
  · simp [h0, h1, h7, h8, hlt]
    refine ⟨rfl, TC_pure rfl rfl (by simp) (by simpa using tf18 xs[i] n) ?_⟩
    rcases findIdx_at hlt hi with ⟨hp, he⟩ | ⟨hp, he⟩
    · simp at hp
      simp [hp, idx, he, hlt]
    · simp at hp
      simp [h0, h1, h7, h8, Int.not_lt.2 hp, wrapN (show i < 9223372036854775807 by omega)]
      exact ⟨xs.length - (i + 1), by omega, i + 1, he, rfl, by simp⟩
  · have := findIdx_end hlt hi
    simp [h0, h1, h7, h8, hlt, idx, this]

theorem tf22 (ms : List Mk) (g : FuncId) (n : Int) (q : Mk → Bool) (hg : lb.wr g = false ∧ lb.intr g = none ∧ lb.inl g = false) (hq : ∀ m, TF Try.prog lb g [enc m, .rptr [I n]] (B (q m))) (hx : W64 ms.length) : TF Try.prog lb 22 [SlM ms, .fn (.func g) [] [.rptr [I n]]] (I (idx q ms)) := by
  refine TF_of rfl Try.func22 rfl ?_
  unfold WF W64 at *
  simp
  refine TL_loop (fun k e s => ∃ i : Nat, i ≤ ms.findIdx q ∧ k = ms.length - i ∧ e 0 = SlM ms ∧ e 1 = .fn (.func g) [] [.rptr [I n]] ∧ e 7 = I ms.length ∧ e 8 = I i ∧ s = sF false) ?_ ms.length _ _ ⟨0, by simp [show lb.own 22 = false from rfl]⟩
  rintro k e s ⟨i, hi, rfl, h0, h1, h7, h8, rfl⟩
  by_cases hlt : i < ms.length
  · simp [h0, h1, h7, h8, hlt]
    refine ⟨hg.1, TC_pure hg.2.1 hg.2.2 (by simp) (by simpa using hq ms[i]) ?_⟩
    rcases findIdx_at hlt hi with ⟨hp, he⟩ | ⟨hp, he⟩
    · simp [hp, idx, he, hlt]
    · simp [h0, h1, h7, h8, hp, wrapN (show i < 9223372036854775807 by omega)]
      exact ⟨ms.length - (i + 1), by omega, i + 1, he, rfl, by simp⟩
  · have := findIdx_end hlt hi
    simp [h0, h1, h7, h8, hlt, idx, this]

/-- The first mark of an origin, and its place. -/
def ofM (ms : List Mk) (n : Int) : Mk := ms[ms.findIdx (fun m => decide (m.o = n))]?.getD ⟨n, 0, []⟩
def atM (ms : List Mk) (n : Int) : Int := idx (fun m => decide (m.o = n)) ms
theorem tf16 (ms : List Mk) (n : Int) (hx : W64 ms.length) : TF Try.prog lb 16 [SlM ms, I n] (.tup [enc (ofM ms n), I (atM ms n)]) := by
  refine TF_of rfl Try.func16 rfl ?_
  unfold WF
  simp
  refine TC_borrow rfl rfl (by simp) (by simp; rfl) (by simpa using tf22 ms 28 n _ ⟨rfl, rfl, rfl⟩ (fun m => tf28 m n) hx) (by simp [memfree, memfree1]) ?_
  by_cases h : ms.findIdx (fun m => decide (m.o = n)) < ms.length
  · have e : idx (fun m => decide (m.o = n)) ms = (ms.findIdx (fun m => decide (m.o = n)) : Int) := by simp [idx, h]
    simp [e, h, ofM, atM]
  · have e : idx (fun m => decide (m.o = n)) ms = -1 := by simp [idx, h]
    simp [e, h, ofM, atM]

def Sm (n : Int) : Prop := -2305843009213693952 ≤ n ∧ n ≤ 2305843009213693952
def freshM (ms : List Mk) (n s : Int) : Bool := decide (1 ≤ n) && decide (n ≤ 64) && decide ((ofM ms n).u < s) && decide (s - 8 ≤ (ofM ms n).u) && !((ofM ms n).ab.contains s)
def OkM (ms : List Mk) : Prop := W64 ms.length ∧ ∀ m ∈ ms, W64 m.ab.length ∧ Sm m.u ∧ ∀ x ∈ m.ab, Sm x
theorem ofM_ok {ms : List Mk} (h : OkM ms) (n : Int) : W64 (ofM ms n).ab.length ∧ Sm (ofM ms n).u ∧ ∀ x ∈ (ofM ms n).ab, Sm x := by
  unfold ofM
  cases he : ms[ms.findIdx (fun m => decide (m.o = n))]? with
  | none => exact ⟨by simp [W64], by simp [Sm], by simp⟩
  | some m => exact h.2 m (List.mem_of_getElem? he)
theorem tf11 (ms : List Mk) (n s : Int) (h : OkM ms) (hs : Sm s) : TF Try.prog lb 11 [SlM ms, I n, I s] (B (freshM ms n s)) := by
  refine TF_of rfl Try.func11 rfl ?_
  unfold WF
  simp
  refine TC_pure rfl rfl (by simp) (by simpa using tf16 ms n h.1) ?_
  obtain ⟨h1, h2, h3⟩ := ofM_ok h n
  have w1 : IntKind.i64.wrap (s - 8) = s - 8 := wrap_id (by unfold Sm at hs; omega) (by unfold Sm at hs; omega)
  unfold freshM
  generalize ofM ms n = m at *
  by_cases c1 : 1 ≤ n <;> by_cases c2 : n ≤ 64 <;> by_cases c3 : m.u < s <;> by_cases c4 : s - 8 ≤ m.u <;> simp [c1, c2, c3, c4, w1]
  refine TC_pure rfl rfl (by simp) (by simpa using tf26 m.ab s h1) ?_
  simp
end Go.Proofs.TryF
