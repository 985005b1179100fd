import Derived.Test.YtccjfglhoghbpaaFnF
namespace Go.Proofs.TryF
open Go Go.Pv
set_option linter.unusedSimpArgs false
set_option linter.unusedVariables false
set_option maxHeartbeats 1000000
set_option maxRecDepth 20000
def insAt {α : Type} (xs : List α) (i : Nat) (x : α) : List α := xs.take i ++ [x] ++ xs.drop i
theorem flatI (xs : List Int) : flat (xs.map I) = xs.map I := by
  induction xs with
  | nil => rfl
  | cons x xs ih => simp only [List.map_cons, flat, List.flatMap_cons] at *; rw [ih]; rfl
theorem flatM (ms : List Mk) : flat (ms.map enc) = ms.flatMap mc := by
  induction ms with
  | nil => rfl
  | cons x xs ih => simp only [List.map_cons, flat, List.flatMap_cons] at *; rw [ih]; rfl
theorem cellsM_len (ms : List Mk) : (ms.flatMap mc).length = ms.length * 3 := by
  induction ms with
  | nil => rfl
  | cons x xs ih => simp only [List.flatMap_cons, List.length_append, ih, List.length_cons, mc]; simp; omega
theorem insC_I (xs : List Int) (x : Int) (i : Nat) : insC 1 (xs.map I) [I x] i = (insAt xs i x).map I := by
  simp [insC, insAt, List.map_take, List.map_drop]
theorem takeM (ms : List Mk) (i : Nat) : (ms.flatMap mc).take (i * 3) = (ms.take i).flatMap mc := by
  induction ms generalizing i with
  | nil => simp
  | cons x xs ih =>
    cases i with
    | zero => simp
    | succ i => simp only [List.take_succ_cons, List.flatMap_cons, ← ih i, mc, Nat.add_mul, Nat.one_mul]; simp
theorem dropM (ms : List Mk) (i : Nat) : (ms.flatMap mc).drop (i * 3) = (ms.drop i).flatMap mc := by
  induction ms generalizing i with
  | nil => simp
  | cons x xs ih =>
    cases i with
    | zero => simp
    | succ i => simp only [List.drop_succ_cons, List.flatMap_cons, ← ih i, mc, Nat.add_mul, Nat.one_mul]; simp
theorem insC_M (ms : List Mk) (x : Mk) (i : Nat) : insC 3 (ms.flatMap mc) (mc x) i = (insAt ms i x).flatMap mc := by
  simp only [insC, insAt, takeM, dropM, List.flatMap_append, List.flatMap_cons, List.flatMap_nil, List.append_nil]
theorem insAt_len {α : Type} {xs : List α} {i : Nat} {x : α} (h : i ≤ xs.length) : (insAt xs i x).length = xs.length + 1 := by simp [insAt]; omega
@[simp] theorem one1_I (xs : List Int) : (xs.map I).all one1 = true := by simp [one1]
theorem clM' (ms : List Mk) : cleanL (ms.flatMap mc) = true := by
  induction ms with
  | nil => rfl
  | cons x xs ih => simp only [List.flatMap_cons, cleanL_append, ih]; simp [mc]
theorem noM' (ms : List Mk) : normL (ms.flatMap mc) = ms.flatMap mc := by
  induction ms with
  | nil => rfl
  | cons x xs ih => simp only [List.flatMap_cons, normL_append, ih]; simp [mc]
theorem chM (ms : List Mk) : chunks 3 ms.length (ms.flatMap mc) = ms.map enc := chunks_flat 3 mc ms (fun _ => rfl)
theorem solI (xs : List Int) : (xs.map I).all PV.solid = true := by simp
theorem solM (ms : List Mk) : (ms.flatMap mc).all PV.solid = true := by
  induction ms with
  | nil => rfl
  | cons x xs ih => simp only [List.flatMap_cons, List.all_append, ih]; simp [mc]

theorem insI (s : Sto) (id : Nat) (xs : List Int) (i x : Int) (g : Grow) (hs : s.get id = some (.cells (xs.map I))) (h0 : 0 ≤ i) (hi : i.toNat ≤ xs.length) (hl : W64 xs.length → True) (hm : (xs.length + 1) * 8 ≤ 140737488355328) :
    tIns Try.prog 33 1 8 [.oslice id 0 xs.length none 1, I i, .slice [I x] g] s = some (SlI (insAt xs i.toNat x), ⟨s.next + 1, (s.set id none).get, s.own⟩) := by
  have hlen := insAt_len (x := x) hi
  have hc : insC 1 (xs.map I) [I x] i.toNat = (insAt xs i.toNat x).map I := insC_I xs x i.toNat
  simp only [tIns, hs]
  rw [if_pos (by refine ⟨?_, ?_, h0, hi, ?_, solI xs, ?_, hm⟩ <;> first | trivial | simp)]
  simp only [cells_lit, hc]
  have : ownCells ⟨1, fun _ => some (.cells ((insAt xs i.toNat x).map I)), false⟩ 0 0 (xs.length + 1) = some ((insAt xs i.toNat x).map I) := by
    simp only [ownCells, List.length_map, hlen, Nat.zero_add, Nat.le_refl, if_true, List.drop_zero]
    rw [← hlen, ← List.length_map (f := I), List.take_length]
  have hone : ∀ y : Int, one1 (I y) = true := fun _ => rfl
  simp [this, hone]
theorem insI0 (s : Sto) (x : Int) (g : Grow) : tIns Try.prog 33 1 8 [.slice [] .full, I 0, .slice [I x] g] s = some (SlI [x], ⟨s.next + 1, s.get, s.own⟩) := by
  simp [tIns, ownCells, one1]
theorem insM (s : Sto) (id : Nat) (ms : List Mk) (i : Int) (x : Mk) (g : Grow) (hs : s.get id = some (.cells (ms.flatMap mc))) (h0 : 0 ≤ i) (hi : i.toNat ≤ ms.length) (hm : (ms.length + 1) * 40 ≤ 140737488355328) :
    tIns Try.prog 22 3 40 [.oslice id 0 ms.length none 3, I i, .slice [enc x] g] s = some (SlM (insAt ms i.toNat x), ⟨s.next + 1, (s.set id none).get, s.own⟩) := by
  have hlen := insAt_len (x := x) hi
  have hc : insC 3 (ms.flatMap mc) (mc x) i.toNat = (insAt ms i.toNat x).flatMap mc := insC_M ms x i.toNat
  simp only [tIns, hs]
  rw [if_pos (by refine ⟨?_, cellsM_len ms, h0, hi, ?_, solM ms, ?_, hm⟩ <;> first | trivial | simp)]
  simp only [cells_agg]
  rw [hc]
  have : ownCells ⟨1, fun _ => some (.cells ((insAt ms i.toNat x).flatMap mc)), false⟩ 0 0 ((ms.length + 1) * 3) = some ((insAt ms i.toNat x).flatMap mc) := by
    have := cellsM_len (insAt ms i.toNat x)
    rw [hlen] at this
    simp only [ownCells, this, Nat.zero_add, Nat.le_refl, if_true, List.drop_zero]
    rw [← this, List.take_length]
  have hch := chM (insAt ms i.toNat x)
  rw [hlen] at hch
  simp [this, clM', noM', hch]
theorem insM0 (s : Sto) (x : Mk) (g : Grow) : tIns Try.prog 22 3 40 [.slice [] .full, I 0, .slice [enc x] g] s = some (SlM [x], ⟨s.next + 1, s.get, s.own⟩) := by
  simp [tIns, ownCells, chunks]
theorem cloneI (s : Sto) (xs : List Int) (g : Grow) (hm : xs.length * 8 ≤ 140737488355328) : tClone 1 8 [.slice (xs.map I) g] s = if xs = [] then some (.slice [] .full, s) else some (.oslice s.next 0 xs.length none 1, s.push (.cells (xs.map I))) := by
  cases xs with
  | nil => rfl
  | cons x xs =>
    have h1 : elemsOk 1 ((x :: xs).map I) = true := okI _
    have h2 := flatI (x :: xs)
    simp only [List.map_cons] at *
    simp only [tClone]
    rw [if_pos ⟨h1, by simpa using hm⟩, h2]
    simp
theorem cloneM (s : Sto) (ms : List Mk) (g : Grow) (hm : ms.length * 40 ≤ 140737488355328) : tClone 3 40 [.slice (ms.map enc) g] s = if ms = [] then some (.slice [] .full, s) else some (.oslice s.next 0 ms.length none 3, s.push (.cells (ms.flatMap mc))) := by
  cases ms with
  | nil => rfl
  | cons x xs =>
    have h1 : elemsOk 3 ((x :: xs).map enc) = true := okM _
    have h2 := flatM (x :: xs)
    simp only [List.map_cons] at *
    simp only [tClone]
    rw [if_pos ⟨h1, by simpa using hm⟩, h2]
    simp
end Go.Proofs.TryF
