import Derived.Test.YtccjfglhoghbpaaTyA
import Derived.Test.YtccjfglhoghbpaaPvOwn
namespace Go.Proofs.TryF
open Go Go.Pv
set_option linter.unusedSimpArgs false
set_option maxRecDepth 20000
theorem clone20 (L : Lb) {c : Code} (hb : Try.f20.body = some c) : CloneRun Try.prog L c Try.f20.results.toList 1 8 := by
  simp only [Try.f20, Option.some.injEq] at hb
  subst hb
  constructor
  · rintro s gr (rfl | rfl) <;> simp [srcCells]
  · intro s x xs hok hm
    rw [elemsOk_cons, Bool.and_eq_true] at hok
    have h1 := of_decide_eq_true hok.1
    have h2 := hok.2
    simp [srcCells, h1, h2, hm, Try.f20]

theorem clone21 (L : Lb) {c : Code} (hb : Try.f21.body = some c) : CloneRun Try.prog L c Try.f21.results.toList 3 40 := by
  simp only [Try.f21, Option.some.injEq] at hb
  subst hb
  constructor
  · rintro s gr (rfl | rfl) <;> simp [srcCells]
  · intro s x xs hok hm
    rw [elemsOk_cons, Bool.and_eq_true] at hok
    have h1 := of_decide_eq_true hok.1
    have h2 := hok.2
    simp [srcCells, h1, h2, hm, Try.f21]

theorem ins0_19 (L : Lb) {c : Code} (hb : Try.f19.body = some c) : InsRun0 Try.prog L c Try.f19.results.toList 1 8 := by
  simp only [Try.f19, Option.some.injEq] at hb
  subst hb
  intro s x gr hxl hxs hm
  simp [srcCells, hxl, Try.f19, flat]
theorem ins_19 (L : Lb) (hov : L.intr 29 = some tOver) {c : Code} (hb : Try.f19.body = some c) : InsRun Try.prog L c Try.f19.results.toList 1 8 := by
  simp only [Try.f19, Option.some.injEq] at hb
  subst hb
  intro s id k cap cs x gr i hs hid hl hk hsol hi hxl hxs hm
  have w1 : IntKind.i64.wrap ((k : Int) + 1) = (k : Int) + 1 := wrap_id (by omega) (by omega)
  have w2 : IntKind.i64.wrap ((i : Int) + 1) = (i : Int) + 1 := wrap_id (by omega) (by omega)
  have w3 : IntKind.i64.wrap ((k : Int) + 1 - i) = (k : Int) + 1 - i := wrap_id (by omega) (by omega)
  have w4 : ((k : Int) + 1 - i).toNat = k + 1 - i := by omega
  have w5 : ((i : Int) + 1).toNat = i + 1 := by omega
  have w6 : ((k : Int) + 1).toNat = k + 1 := by omega
  have e1 : (i : Int) ≤ k := by omega
  have hkc : k * 1 ≤ cap * 1 := Nat.mul_le_mul_right _ hk
  have hic : i * 1 ≤ k * 1 := Nat.mul_le_mul_right _ hi
  have hsl : (cs.take (k * 1)).all PV.solid = true := hsol
  by_cases hik : i = k
  · subst hik
    by_cases hroom : i + 1 ≤ cap
    · have hr2 : (i + 1) * 1 ≤ cap * 1 := Nat.mul_le_mul_right _ hroom
      refine ⟨id, 0, some cap, 1, (s.flag true).set id (some (.cells (writeAt cs (i * 1) x.cells))), ?_, ?_, ?_⟩
      · have hw : ownWrite (s.flag true) id (i * 1) x.cells = some ((s.flag true).set id (some (.cells (writeAt cs (i * 1) x.cells)))) := ownWrite_of (by simpa using hs) hxs (by omega)
        try simp only [Nat.mul_one] at hw
        simp [srcCells, hxl, Try.f19, flat, hroom, hw, hk]
      · rw [ownCells_set (by rw [writeAt_length _ _ _ (by omega)]; omega), ins_end_place hl hroom hxl]
      · exact ⟨by simp [Sto.set, Sto.flag], by simp [Sto.set, Sto.flag], fun j h1 h2 => by simp [Sto.set, Sto.flag, h1], .inl rfl⟩
    · refine ⟨s.next, 0, none, 1, (s.flag true).push (.cells (cs.take (i * 1) ++ x.cells)), ?_, ?_, ?_⟩
      · have hw : ownCells (s.flag true) id 0 (i * 1) = some (cs.take (i * 1)) := by rw [ownCells_of (by simpa using hs) (by omega)]; rfl
        try simp only [Nat.mul_one] at hw
        simp [srcCells, hxl, Try.f19, flat, hroom, hw, hk, hm]
      · have hlen := insC_length (k := i) (i := i) (n := 1) (cs := cs) (xc := x.cells) (by omega) hi hxl
        rw [ins_end (n := 1) (cs := cs) (k := i) (by omega), ownCells_push (by rw [hlen]; omega), ← hlen, List.take_length]
      · exact ⟨by simp [Sto.push, Sto.flag], by simp [Sto.push, Sto.flag], fun j h1 h2 => by simp [Sto.push, Sto.flag, Nat.ne_of_lt h2], .inr rfl⟩
  · have e2 : ¬ ((i : Int) = k) := by omega
    have f1 : (i : Int) < (k : Int) + 1 := by omega
    have f2 : i + (k + 1 - i) = k + 1 := by omega
    have f4 : Nat.min 1 (k + 1 - i) = 1 := by simp only [Nat.min_def]; split <;> omega
    have f5 : Nat.min (k - i) (k + 1 - (i + 1)) = k - i := by simp only [Nat.min_def]; split <;> omega
    have f7 : (i : Int) + 1 ≤ (k : Int) + 1 := by omega
    have f8 : i + 1 ≤ k + 1 := by omega
    have f9 : i < k + 1 := by omega
    have g1 : (i : Int) ≤ (k : Int) + 1 := by omega
    have g2 : (0 : Int) ≤ (i : Int) + 1 := by omega
    have g3 : i < k := by omega
    have g4 : ¬ (id = s.next) := by omega
    have h4 : (k - i) * 1 ≤ k * 1 := Nat.mul_le_mul_right _ (Nat.sub_le _ _)
    have h5 : i * 1 + (k - i) * 1 = k * 1 := by rw [← Nat.add_mul]; congr 1; omega
    have h6 : (i + 1) * 1 + (k - i) * 1 = (k + 1) * 1 := by rw [← Nat.add_mul]; congr 1; omega
    have h7 : i * 1 + (k + 1 - i) * 1 = (k + 1) * 1 := by rw [← Nat.add_mul, f2]
    have g7 : ∀ y ∈ (cs.drop (i * 1)).take ((k - i) * 1), y.solid = true := fun y hy => List.all_eq_true.1 hsol y (by
      have e : (k - i) * 1 = k * 1 - i * 1 := by omega
      rw [e, ← List.drop_take] at hy
      exact List.mem_of_mem_drop hy)
    have hB : ((cs.drop (i * 1)).take ((k - i) * 1)).length = (k - i) * 1 := by simp; omega
    have hB2 : min ((k - i) * 1) (cap * 1 - i * 1) = (k - i) * 1 := by omega
    have h8 : i * 1 ≤ cap * 1 := by omega
    have h9 : 1 ≤ (k + 1 - i) * 1 := by have := Nat.mul_le_mul_right 1 (show 1 ≤ k + 1 - i by omega); omega
    have h11 : i * 1 + 1 ≤ (k + 1) * 1 := by omega
    have h10 : i * 1 + (k - i) * 1 ≤ cap * 1 := by omega
    by_cases hroom : k + 1 ≤ cap
    · have r1 : ¬ ((cap : Int) < (k : Int) + 1) := by omega
      have r2 : (k : Int) + 1 ≤ cap := by omega
      have r3 : ¬ (cap = i + 1) := by omega
      have r4 : ¬ (cap = i) := by omega
      have r5 : k + 1 ≤ cap := hroom
      have r6 : Nat.min (k + 1 - i) (k + 1 - (i + 1)) = k - i := by simp only [Nat.min_def]; split <;> omega
      have r7 : (k + 1) * 1 ≤ cap * 1 := Nat.mul_le_mul_right _ hroom
      have g8 : (0 : Int) ≤ (k : Int) + 1 := by omega
      refine ⟨id, 0, some cap, 1, (s.flag true).set id (some (.cells (writeAt (writeAt cs ((i + 1) * 1) ((cs.drop (i * 1)).take ((k - i) * 1))) (i * 1) x.cells))), ?_, ?_, ?_⟩
      · try simp only [Nat.mul_one] at *
        simp [hs, hl, hk, hxl, hxs, hm, push_set, writeAt_length, srcCells, ownCells, ownWrite, flat, Try.f19, e1, e2, r1, r2, r3, r4, r5, r6, w1, w2, w3, w4, w5, w6, f1, f2, f4, f5, f7, f8, f9, g1, g2, g3, g8]
        refine TC_intr hov (r := .lit (.bool false)) (s' := s.flag true) (by simp [tOver, hs, hxl]) ?_
        have q1 : (k + 1 - i).min (k - i) = k - i := by simp only [Nat.min_def]; split <;> omega
        have q2 : k - i ≤ k + 1 - i := by omega
        have q3 : (i) + (k - i) ≤ (cap) := by omega
        have q4 : (∀ y ∈ (cs.drop ((i))).take ((k - i)), y.solid = true) ∧ (i + 1) + (k - i) ≤ (cap) := ⟨g7, by omega⟩
        have q5 : (i) + 1 ≤ (cap) := by omega
        have q6 : (i + 1) + (k - i) ≤ (cap) := by omega
        simp [hs, hl, hk, hxl, hxs, hm, push_set, writeAt_length, srcCells, ownCells, ownWrite, flat, Try.f19, e1, e2, r1, r2, r3, r4, r5, r6, w1, w2, w3, w4, w5, w6, f1, f2, f4, f5, f7, f8, f9, g1, g2, g3, g8, q1, q2, q3, hB, hB2, q5, q6]
        rw [if_pos g7]
        simp [hs, hl, hB, hB2, q5, q6, writeAt_length, hxs, Sto.set_set]
      · have a1 : (writeAt cs ((i + 1) * 1) ((cs.drop (i * 1)).take ((k - i) * 1))).length = cap * 1 := by rw [writeAt_length _ _ _ (by rw [hB]; omega)]; exact hl
        have a2 : (writeAt (writeAt cs ((i + 1) * 1) ((cs.drop (i * 1)).take ((k - i) * 1))) (i * 1) x.cells).length = cap * 1 := by rw [writeAt_length _ _ _ (by rw [a1]; omega)]; exact a1
        rw [ownCells_set (by rw [a2]; omega), ins_place hl hi hroom hxl]
      · exact ⟨by simp [Sto.set, Sto.flag], by simp [Sto.set, Sto.flag], fun j h1 h2 => by simp [Sto.set, Sto.flag, h1], .inl rfl⟩
    · have e3 : (cap : Int) < (k : Int) + 1 := by omega
      have e4 : i ≤ cap := by omega
      have e5 : ¬ (cap = i) := by omega
      have f3 : cap < k + 1 := by omega
      refine ⟨s.next, 0, none, 1, (s.flag true).push (.cells (writeAt (writeAt (cs.take (i * 1) ++ List.replicate ((k + 1 - i) * 1) PV.any) (i * 1) x.cells) ((i + 1) * 1) ((cs.drop (i * 1)).take ((k - i) * 1)))), ?_, ?_, ?_⟩
      · have hw : ownCells (s.flag true) id 0 (i * 1) = some (cs.take (i * 1)) := by rw [ownCells_of (by simpa using hs) (by omega)]; rfl
        have m1 : min (i * 1) (cap * 1) = i * 1 := by omega
        try simp only [Nat.mul_one] at *
        have q3 : (i) + (k - i) ≤ (cap) := by omega
        have q6 : (i + 1) + (k - i) ≤ (k + 1) := by omega
        simp [hs, hl, hk, hxl, hxs, hm, push_set, writeAt_length, srcCells, ownCells, ownWrite, flat, Try.f19, hw, e1, e2, e3, e4, e5, w1, w2, w3, w4, w5, f1, f2, f3, f4, f5, f7, f8, f9, g1, g2, g3, g4, q3, hB, hB2, q6, h8, h9, h10, h7, h11]
        rw [if_pos g7]
      · rw [ins_grow (by omega) hi hxl]
        have hlen := insC_length (n := 1) (cs := cs) (xc := x.cells) (by omega : k * 1 ≤ cs.length) hi hxl
        rw [ownCells_push (by rw [hlen]; omega), ← hlen, List.take_length]
      · exact ⟨by simp [Sto.push, Sto.flag], by simp [Sto.push, Sto.flag], fun j h1 h2 => by simp [Sto.push, Sto.flag, Nat.ne_of_lt h2], .inr rfl⟩

theorem ins0_24 (L : Lb) {c : Code} (hb : Try.f24.body = some c) : InsRun0 Try.prog L c Try.f24.results.toList 3 40 := by
  simp only [Try.f24, Option.some.injEq] at hb
  subst hb
  intro s x gr hxl hxs hm
  simp [srcCells, hxl, Try.f24, flat]
theorem ins_24 (L : Lb) (hov : L.intr 31 = some tOver) {c : Code} (hb : Try.f24.body = some c) : InsRun Try.prog L c Try.f24.results.toList 3 40 := by
  simp only [Try.f24, Option.some.injEq] at hb
  subst hb
  intro s id k cap cs x gr i hs hid hl hk hsol hi hxl hxs hm
  have w1 : IntKind.i64.wrap ((k : Int) + 1) = (k : Int) + 1 := wrap_id (by omega) (by omega)
  have w2 : IntKind.i64.wrap ((i : Int) + 1) = (i : Int) + 1 := wrap_id (by omega) (by omega)
  have w3 : IntKind.i64.wrap ((k : Int) + 1 - i) = (k : Int) + 1 - i := wrap_id (by omega) (by omega)
  have w4 : ((k : Int) + 1 - i).toNat = k + 1 - i := by omega
  have w5 : ((i : Int) + 1).toNat = i + 1 := by omega
  have w6 : ((k : Int) + 1).toNat = k + 1 := by omega
  have e1 : (i : Int) ≤ k := by omega
  have hkc : k * 3 ≤ cap * 3 := Nat.mul_le_mul_right _ hk
  have hic : i * 3 ≤ k * 3 := Nat.mul_le_mul_right _ hi
  have hsl : (cs.take (k * 3)).all PV.solid = true := hsol
  by_cases hik : i = k
  · subst hik
    by_cases hroom : i + 1 ≤ cap
    · have hr2 : (i + 1) * 3 ≤ cap * 3 := Nat.mul_le_mul_right _ hroom
      refine ⟨id, 0, some cap, 3, (s.flag true).set id (some (.cells (writeAt cs (i * 3) x.cells))), ?_, ?_, ?_⟩
      · have hw : ownWrite (s.flag true) id (i * 3) x.cells = some ((s.flag true).set id (some (.cells (writeAt cs (i * 3) x.cells)))) := ownWrite_of (by simpa using hs) hxs (by omega)
        try simp only [Nat.mul_one] at hw
        simp [srcCells, hxl, Try.f24, flat, hroom, hw, hk]
      · rw [ownCells_set (by rw [writeAt_length _ _ _ (by omega)]; omega), ins_end_place hl hroom hxl]
      · exact ⟨by simp [Sto.set, Sto.flag], by simp [Sto.set, Sto.flag], fun j h1 h2 => by simp [Sto.set, Sto.flag, h1], .inl rfl⟩
    · refine ⟨s.next, 0, none, 3, (s.flag true).push (.cells (cs.take (i * 3) ++ x.cells)), ?_, ?_, ?_⟩
      · have hw : ownCells (s.flag true) id 0 (i * 3) = some (cs.take (i * 3)) := by rw [ownCells_of (by simpa using hs) (by omega)]; rfl
        try simp only [Nat.mul_one] at hw
        simp [srcCells, hxl, Try.f24, flat, hroom, hw, hk, hm]
      · have hlen := insC_length (k := i) (i := i) (n := 3) (cs := cs) (xc := x.cells) (by omega) hi hxl
        rw [ins_end (n := 3) (cs := cs) (k := i) (by omega), ownCells_push (by rw [hlen]; omega), ← hlen, List.take_length]
      · exact ⟨by simp [Sto.push, Sto.flag], by simp [Sto.push, Sto.flag], fun j h1 h2 => by simp [Sto.push, Sto.flag, Nat.ne_of_lt h2], .inr rfl⟩
  · have e2 : ¬ ((i : Int) = k) := by omega
    have f1 : (i : Int) < (k : Int) + 1 := by omega
    have f2 : i + (k + 1 - i) = k + 1 := by omega
    have f4 : Nat.min 1 (k + 1 - i) = 1 := by simp only [Nat.min_def]; split <;> omega
    have f5 : Nat.min (k - i) (k + 1 - (i + 1)) = k - i := by simp only [Nat.min_def]; split <;> omega
    have f7 : (i : Int) + 1 ≤ (k : Int) + 1 := by omega
    have f8 : i + 1 ≤ k + 1 := by omega
    have f9 : i < k + 1 := by omega
    have g1 : (i : Int) ≤ (k : Int) + 1 := by omega
    have g2 : (0 : Int) ≤ (i : Int) + 1 := by omega
    have g3 : i < k := by omega
    have g4 : ¬ (id = s.next) := by omega
    have h4 : (k - i) * 3 ≤ k * 3 := Nat.mul_le_mul_right _ (Nat.sub_le _ _)
    have h5 : i * 3 + (k - i) * 3 = k * 3 := by rw [← Nat.add_mul]; congr 1; omega
    have h6 : (i + 1) * 3 + (k - i) * 3 = (k + 1) * 3 := by rw [← Nat.add_mul]; congr 1; omega
    have h7 : i * 3 + (k + 1 - i) * 3 = (k + 1) * 3 := by rw [← Nat.add_mul, f2]
    have g7 : ∀ y ∈ (cs.drop (i * 3)).take ((k - i) * 3), y.solid = true := fun y hy => List.all_eq_true.1 hsol y (by
      have e : (k - i) * 3 = k * 3 - i * 3 := by omega
      rw [e, ← List.drop_take] at hy
      exact List.mem_of_mem_drop hy)
    have hB : ((cs.drop (i * 3)).take ((k - i) * 3)).length = (k - i) * 3 := by simp; omega
    have hB2 : min ((k - i) * 3) (cap * 3 - i * 3) = (k - i) * 3 := by omega
    have h8 : i * 3 ≤ cap * 3 := by omega
    have h9 : 3 ≤ (k + 1 - i) * 3 := by have := Nat.mul_le_mul_right 3 (show 1 ≤ k + 1 - i by omega); omega
    have h11 : i * 3 + 3 ≤ (k + 1) * 3 := by omega
    have h10 : i * 3 + (k - i) * 3 ≤ cap * 3 := by omega
    by_cases hroom : k + 1 ≤ cap
    · have r1 : ¬ ((cap : Int) < (k : Int) + 1) := by omega
      have r2 : (k : Int) + 1 ≤ cap := by omega
      have r3 : ¬ (cap = i + 1) := by omega
      have r4 : ¬ (cap = i) := by omega
      have r5 : k + 1 ≤ cap := hroom
      have r6 : Nat.min (k + 1 - i) (k + 1 - (i + 1)) = k - i := by simp only [Nat.min_def]; split <;> omega
      have r7 : (k + 1) * 3 ≤ cap * 3 := Nat.mul_le_mul_right _ hroom
      have g8 : (0 : Int) ≤ (k : Int) + 1 := by omega
      refine ⟨id, 0, some cap, 3, (s.flag true).set id (some (.cells (writeAt (writeAt cs ((i + 1) * 3) ((cs.drop (i * 3)).take ((k - i) * 3))) (i * 3) x.cells))), ?_, ?_, ?_⟩
      · try simp only [Nat.mul_one] at *
        simp [hs, hl, hk, hxl, hxs, hm, push_set, writeAt_length, srcCells, ownCells, ownWrite, flat, Try.f24, e1, e2, r1, r2, r3, r4, r5, r6, w1, w2, w3, w4, w5, w6, f1, f2, f4, f5, f7, f8, f9, g1, g2, g3, g8]
        refine TC_intr hov (r := .lit (.bool false)) (s' := s.flag true) (by simp [tOver, hs, hxl]) ?_
        have q1 : (k + 1 - i).min (k - i) = k - i := by simp only [Nat.min_def]; split <;> omega
        have q2 : k - i ≤ k + 1 - i := by omega
        have q3 : (i) * 3 + (k - i) * 3 ≤ (cap) * 3 := by omega
        have q4 : (∀ y ∈ (cs.drop ((i) * 3)).take ((k - i) * 3), y.solid = true) ∧ (i + 1) * 3 + (k - i) * 3 ≤ (cap) * 3 := ⟨g7, by omega⟩
        have q5 : (i) * 3 + 3 ≤ (cap) * 3 := by omega
        have q6 : (i + 1) * 3 + (k - i) * 3 ≤ (cap) * 3 := by omega
        simp [hs, hl, hk, hxl, hxs, hm, push_set, writeAt_length, srcCells, ownCells, ownWrite, flat, Try.f24, e1, e2, r1, r2, r3, r4, r5, r6, w1, w2, w3, w4, w5, w6, f1, f2, f4, f5, f7, f8, f9, g1, g2, g3, g8, q1, q2, q3, hB, hB2, q5, q6]
        rw [if_pos g7]
        simp [hs, hl, hB, hB2, q5, q6, writeAt_length, hxs, Sto.set_set]
      · have a1 : (writeAt cs ((i + 1) * 3) ((cs.drop (i * 3)).take ((k - i) * 3))).length = cap * 3 := by rw [writeAt_length _ _ _ (by rw [hB]; omega)]; exact hl
        have a2 : (writeAt (writeAt cs ((i + 1) * 3) ((cs.drop (i * 3)).take ((k - i) * 3))) (i * 3) x.cells).length = cap * 3 := by rw [writeAt_length _ _ _ (by rw [a1]; omega)]; exact a1
        rw [ownCells_set (by rw [a2]; omega), ins_place hl hi hroom hxl]
      · exact ⟨by simp [Sto.set, Sto.flag], by simp [Sto.set, Sto.flag], fun j h1 h2 => by simp [Sto.set, Sto.flag, h1], .inl rfl⟩
    · have e3 : (cap : Int) < (k : Int) + 1 := by omega
      have e4 : i ≤ cap := by omega
      have e5 : ¬ (cap = i) := by omega
      have f3 : cap < k + 1 := by omega
      refine ⟨s.next, 0, none, 3, (s.flag true).push (.cells (writeAt (writeAt (cs.take (i * 3) ++ List.replicate ((k + 1 - i) * 3) PV.any) (i * 3) x.cells) ((i + 1) * 3) ((cs.drop (i * 3)).take ((k - i) * 3)))), ?_, ?_, ?_⟩
      · have hw : ownCells (s.flag true) id 0 (i * 3) = some (cs.take (i * 3)) := by rw [ownCells_of (by simpa using hs) (by omega)]; rfl
        have m1 : min (i * 3) (cap * 3) = i * 3 := by omega
        try simp only [Nat.mul_one] at *
        have q3 : (i) * 3 + (k - i) * 3 ≤ (cap) * 3 := by omega
        have q6 : (i + 1) * 3 + (k - i) * 3 ≤ (k + 1) * 3 := by omega
        simp [hs, hl, hk, hxl, hxs, hm, push_set, writeAt_length, srcCells, ownCells, ownWrite, flat, Try.f24, hw, e1, e2, e3, e4, e5, w1, w2, w3, w4, w5, f1, f2, f3, f4, f5, f7, f8, f9, g1, g2, g3, g4, q3, hB, hB2, q6, h8, h9, h10, h7, h11]
        rw [if_pos g7]
      · rw [ins_grow (by omega) hi hxl]
        have hlen := insC_length (n := 3) (cs := cs) (xc := x.cells) (by omega : k * 3 ≤ cs.length) hi hxl
        rw [ownCells_push (by rw [hlen]; omega), ← hlen, List.take_length]
      · exact ⟨by simp [Sto.push, Sto.flag], by simp [Sto.push, Sto.flag], fun j h1 h2 => by simp [Sto.push, Sto.flag, Nat.ne_of_lt h2], .inr rfl⟩

end Go.Proofs.TryF
