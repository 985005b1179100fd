import Derived.Test.YtccjfglhoghbpaaFnM
namespace Go.Proofs.TryF
open Go Go.Pv
set_option linter.unusedSimpArgs false
set_option linter.unusedVariables false
set_option maxHeartbeats 1000000
/-! ### low -/
theorem low_facts : ∀ (l : List Int) (u : Int), (low u l).2.length ≤ l.length ∧ (∀ x ∈ (low u l).2, x ∈ l) ∧ u ≤ (low u l).1 ∧ ((low u l).1 = u ∨ (low u l).1 ∈ l) ∧ (∀ x ∈ l, x ≤ (low u l).1 ∨ x ∈ (low u l).2)
  | [], u => by simp [low]
  | x :: l, u => by
    by_cases h : x - 1 = u
    · rw [low_step h]
      obtain ⟨h1, h2, h3, h4, h5⟩ := low_facts l (u + 1)
      refine ⟨by simp; omega, fun y hy => List.mem_cons_of_mem _ (h2 y hy), by omega, ?_, ?_⟩
      · rcases h4 with h4 | h4
        · refine .inr ?_
          rw [h4]
          have : u + 1 = x := by omega
          rw [this]; exact List.mem_cons_self ..
        · exact .inr (List.mem_cons_of_mem _ h4)
      · intro y hy
        rcases List.mem_cons.1 hy with rfl | hy
        · exact .inl (by omega)
        · exact h5 y hy
    · rw [low_stop h]
      exact ⟨Nat.le_refl _, fun _ h => h, Int.le_refl _, .inl rfl, fun _ h => .inr h⟩
theorem low_pw : ∀ (l : List Int) (u : Int), l.Pairwise (· < ·) → (∀ x ∈ l, u < x ∧ x ≤ u + 8) → (low u l).2.Pairwise (· < ·) ∧ ∀ x ∈ (low u l).2, 1 < x - (low u l).1 ∧ x - (low u l).1 ≤ 8
  | [], u, _, _ => by simp [low]
  | x :: l, u, hp, hb => by
    rw [List.pairwise_cons] at hp
    by_cases h : x - 1 = u
    · rw [low_step h]
      refine low_pw l (u + 1) hp.2 fun y hy => ?_
      have h1 := hb y (List.mem_cons_of_mem _ hy)
      have h2 := hp.1 y hy
      omega
    · rw [low_stop h]
      refine ⟨List.pairwise_cons.2 hp, fun y hy => ?_⟩
      have h1 := hb x (List.mem_cons_self ..)
      rcases List.mem_cons.1 hy with rfl | hy
      · simp only; omega
      · have h2 := hp.1 y hy
        have h3 := hb y (List.mem_cons_of_mem _ hy)
        simp only; omega

/-! ### rows that rise -/
theorem pw_of_adj {α : Type} [Inhabited α] (f : α → Int) (l : List α) (h : ∀ j (hj : j < l.length), 0 < j → f l[j - 1] < f l[j]) : l.Pairwise (fun a b => f a < f b) := by
  rw [List.pairwise_iff_getElem]
  intro i j hi hj hij
  induction j with
  | zero => omega
  | succ j ih =>
    have h1 := h (j + 1) hj (by omega)
    simp only [Nat.add_sub_cancel] at h1
    rcases Nat.lt_or_ge i j with h2 | h2
    · exact Int.lt_trans (ih (by omega) h2) h1
    · have : i = j := by omega
      subst this
      exact h1
theorem adj_of_pw {α : Type} (f : α → Int) (l : List α) (h : l.Pairwise (fun a b => f a < f b)) (j : Nat) (hj : j < l.length) (h0 : 0 < j) : f l[j - 1] < f l[j] :=
  List.pairwise_iff_getElem.1 h (j - 1) j (by omega) hj (by omega)
structure RM (m : Mk) : Prop where
  o1 : 1 ≤ m.o
  o2 : m.o ≤ 64
  u0 : 0 ≤ m.u
  win : ∀ x ∈ m.ab, 1 < x - m.u ∧ x - m.u ≤ 8
  pw : m.ab.Pairwise (· < ·)
theorem rightM_iff (m : Mk) : rightM m = true ↔ RM m := by
  simp only [rightM, Bool.and_eq_true, decide_eq_true_eq, List.all_eq_true, List.mem_range, okAt, Bool.or_eq_true]
  constructor
  · rintro ⟨⟨⟨h1, h2⟩, h3⟩, h4⟩
    refine ⟨h1, h2, h3, fun x hx => ?_, ?_⟩
    · obtain ⟨j, hj, rfl⟩ := List.getElem_of_mem hx
      have := (h4 j hj).1
      rw [getD_lt hj] at this
      exact this
    · refine pw_of_adj (fun x => x) m.ab fun j hj h0 => ?_
      have := (h4 j hj).2
      rw [getD_lt hj, getD_lt (show j - 1 < m.ab.length by omega)] at this
      omega
  · rintro ⟨h1, h2, h3, h4, h5⟩
    refine ⟨⟨⟨h1, h2⟩, h3⟩, fun j hj => ⟨?_, ?_⟩⟩
    · rw [getD_lt hj]; exact h4 _ (List.getElem_mem hj)
    · rcases Nat.eq_zero_or_pos j with h0 | h0
      · exact .inl h0
      · rw [getD_lt hj, getD_lt (show j - 1 < m.ab.length by omega)]
        exact .inr (adj_of_pw (fun x => x) _ h5 j hj h0)
def RL (ms : List Mk) : Prop := (∀ m ∈ ms, RM m) ∧ ms.Pairwise (fun a b => a.o < b.o)
instance : Inhabited Mk := ⟨mk0⟩
theorem rightL_iff (ms : List Mk) : rightL ms = true ↔ RL ms := by
  simp only [rightL, List.all_eq_true, List.mem_range, okR, Bool.and_eq_true, Bool.or_eq_true, decide_eq_true_eq]
  constructor
  · intro h
    refine ⟨fun m hm => ?_, ?_⟩
    · obtain ⟨j, hj, rfl⟩ := List.getElem_of_mem hm
      have := (h j hj).1
      rw [getDm hj] at this
      exact (rightM_iff _).1 this
    · refine pw_of_adj (fun m => m.o) ms fun j hj h0 => ?_
      have := (h j hj).2
      rw [getDm hj, getDm (show j - 1 < ms.length by omega)] at this
      omega
  · rintro ⟨h1, h2⟩ j hj
    rw [getDm hj]
    refine ⟨(rightM_iff _).2 (h1 _ (List.getElem_mem hj)), ?_⟩
    rcases Nat.eq_zero_or_pos j with h0 | h0
    · exact .inl h0
    · rw [getDm (show j - 1 < ms.length by omega)]
      exact .inr (adj_of_pw (fun m => m.o) ms h2 j hj h0)
theorem pw_ins {α : Type} (f : α → Int) (l : List α) (x : α) (h : l.Pairwise (fun a b => f a < f b)) (hne : ∀ y ∈ l, f y ≠ f x) : (insAt l (l.findIdx (fun y => decide (f x < f y))) x).Pairwise (fun a b => f a < f b) := by
  have hlow : ∀ y ∈ l.take (l.findIdx (fun y => decide (f x < f y))), f y < f x := by
    intro y hy
    obtain ⟨j, hj, rfl⟩ := List.getElem_of_mem hy
    rw [List.length_take] at hj
    rw [List.getElem_take]
    have h1 := List.not_of_lt_findIdx (p := fun y => decide (f x < f y)) (xs := l) (i := j) (by omega)
    have h2 := hne l[j] (List.getElem_mem _)
    simp only [decide_eq_true_eq, decide_eq_false_iff_not] at h1
    omega
  have hhigh : ∀ y ∈ l.drop (l.findIdx (fun y => decide (f x < f y))), f x < f y := by
    intro y hy
    obtain ⟨j, hj, rfl⟩ := List.getElem_of_mem hy
    rw [List.length_drop] at hj
    rw [List.getElem_drop]
    have hlt : l.findIdx (fun y => decide (f x < f y)) < l.length := by omega
    have h1 := List.findIdx_getElem (w := hlt)
    simp only [decide_eq_true_eq] at h1
    rcases Nat.eq_zero_or_pos j with h0 | h0
    · subst h0; simpa using h1
    · have h2 := List.pairwise_iff_getElem.1 h (l.findIdx (fun y => decide (f x < f y))) (l.findIdx (fun y => decide (f x < f y)) + j) hlt (by omega) (by omega)
      omega
  simp only [insAt]
  rw [List.pairwise_append, List.pairwise_append]
  refine ⟨⟨h.sublist (List.take_sublist _ _), List.pairwise_singleton _ _, ?_⟩, h.sublist (List.drop_sublist _ _), ?_⟩
  · intro y hy z hz
    rw [List.mem_singleton] at hz
    subst hz
    exact hlow y hy
  · intro y hy z hz
    rcases List.mem_append.1 hy with hy | hy
    · exact Int.lt_trans (hlow y hy) (hhigh z hz)
    · rw [List.mem_singleton] at hy
      subst hy
      exact hhigh z hz

/-! ### the marks -/
theorem ofM_mem (ms : List Mk) (n : Int) : (ms.findIdx (fun m => decide (m.o = n)) < ms.length ∧ ofM ms n ∈ ms ∧ (ofM ms n).o = n) ∨ (ms.findIdx (fun m => decide (m.o = n)) = ms.length ∧ ofM ms n = ⟨n, 0, []⟩ ∧ ∀ m ∈ ms, m.o ≠ n) := by
  by_cases h : ms.findIdx (fun m => decide (m.o = n)) < ms.length
  · have e : ofM ms n = ms[ms.findIdx (fun m => decide (m.o = n))] := by simp [ofM, h]
    have := List.findIdx_getElem (w := h)
    simp only [decide_eq_true_eq] at this
    exact .inl ⟨h, e ▸ List.getElem_mem _, by rw [e]; exact this⟩
  · have hl : ms.findIdx (fun m => decide (m.o = n)) = ms.length := by
      have := List.findIdx_le_length (p := fun m => decide (m.o = n)) (xs := ms); omega
    refine .inr ⟨hl, by simp [ofM, h], fun m hm hmo => h ?_⟩
    exact List.findIdx_lt_length.2 ⟨m, hm, by simp [hmo]⟩
theorem newM_o (ms : List Mk) (n s : Int) : (newM ms n s).o = n := by
  show (ofM ms n).o = n
  rcases ofM_mem ms n with ⟨_, _, h⟩ | ⟨_, h, _⟩
  · exact h
  · rw [h]
theorem putM_mem {ms : List Mk} {n : Int} {m x : Mk} (h : x ∈ putM ms n m) : x = m ∨ x ∈ ms := by
  unfold putM at h
  split at h
  · rcases List.mem_or_eq_of_mem_set h with h | h
    · exact .inr h
    · exact .inl h
  · exact insAt_mem h
theorem noteM_mem {ms : List Mk} {n s : Int} {x : Mk} (h : x ∈ noteM ms n s) : x = newM ms n s ∨ x ∈ ms := by
  unfold noteM at h
  split at h
  · exact putM_mem h
  · exact .inr h
theorem noteM_len (ms : List Mk) (n s : Int) : (noteM ms n s).length ≤ ms.length + 1 := by
  unfold noteM
  split
  · unfold putM
    split
    · simp
    · rw [insAt_len List.findIdx_le_length]; omega
  · omega
theorem newM_facts (ms : List Mk) (n s : Int) : (newM ms n s).ab.length ≤ (ofM ms n).ab.length + 1 ∧ (∀ x ∈ (newM ms n s).ab, x = s ∨ x ∈ (ofM ms n).ab) ∧ (ofM ms n).u ≤ (newM ms n s).u ∧ ((newM ms n s).u = (ofM ms n).u ∨ (newM ms n s).u = s ∨ (newM ms n s).u ∈ (ofM ms n).ab) ∧ (∀ x, x = s ∨ x ∈ (ofM ms n).ab → x ≤ (newM ms n s).u ∨ x ∈ (newM ms n s).ab) := by
  obtain ⟨h1, h2, h3, h4, h5⟩ := low_facts (insAt (ofM ms n).ab ((ofM ms n).ab.findIdx (fun x => decide (s < x))) s) (ofM ms n).u
  have hl := insAt_len (x := s) (xs := (ofM ms n).ab) (i := (ofM ms n).ab.findIdx (fun x => decide (s < x))) List.findIdx_le_length
  refine ⟨by rw [← hl]; exact h1, fun x hx => insAt_mem (h2 x hx), h3, ?_, fun x hx => ?_⟩
  · rcases h4 with h4 | h4
    · exact .inl h4
    · exact .inr (insAt_mem h4)
  · refine h5 x ?_
    simp only [insAt, List.mem_append, List.mem_singleton]
    rcases hx with hx | hx
    · exact .inl (.inr hx)
    · rw [← List.take_append_drop ((ofM ms n).ab.findIdx (fun x => decide (s < x))) (ofM ms n).ab, List.mem_append] at hx
      rcases hx with hx | hx
      · exact .inl (.inl hx)
      · exact .inr hx
/-- Bounds: how many, how great. -/
structure Bd (k : Nat) (ms : List Mk) : Prop where
  len : ms.length ≤ k
  each : ∀ m ∈ ms, m.ab.length ≤ k ∧ (-1099511627776 ≤ m.u ∧ m.u ≤ 1099511627776) ∧ ∀ x ∈ m.ab, -1099511627776 ≤ x ∧ x ≤ 1099511627776
theorem Bd.ok {k : Nat} {ms : List Mk} (h : Bd k ms) (hk : k ≤ 1099511627776) : OkM ms := by
  refine ⟨by unfold W64; have := h.len; omega, fun m hm => ?_⟩
  obtain ⟨h1, h2, h3⟩ := h.each m hm
  exact ⟨by unfold W64; omega, by unfold Sm; omega, fun x hx => by have := h3 x hx; unfold Sm; omega⟩
theorem Bd.of {k : Nat} {ms : List Mk} (h : Bd k ms) (n : Int) : (ofM ms n).ab.length ≤ k ∧ (-1099511627776 ≤ (ofM ms n).u ∧ (ofM ms n).u ≤ 1099511627776) ∧ ∀ x ∈ (ofM ms n).ab, -1099511627776 ≤ x ∧ x ≤ 1099511627776 := by
  rcases ofM_mem ms n with ⟨_, h1, _⟩ | ⟨_, h1, _⟩
  · exact h.each _ h1
  · rw [h1]; simp
theorem Bd.note {k : Nat} {ms : List Mk} (h : Bd k ms) (n s : Int) (h1 : -1099511627776 ≤ s) (h2 : s ≤ 1099511627776) : Bd (k + 1) (noteM ms n s) := by
  refine ⟨Nat.le_trans (noteM_len ms n s) (by have := h.len; omega), fun m hm => ?_⟩
  rcases noteM_mem hm with rfl | hm
  · obtain ⟨f1, f2, f3, f4, f5⟩ := newM_facts ms n s
    obtain ⟨b1, b2, b3⟩ := h.of n
    refine ⟨by omega, ?_, fun x hx => ?_⟩
    · rcases f4 with f4 | f4 | f4
      · rw [f4]; exact b2
      · rw [f4]; omega
      · exact b3 _ f4
    · rcases f2 x hx with rfl | hx
      · omega
      · exact b3 x hx
  · obtain ⟨b1, b2⟩ := h.each m hm
    exact ⟨by omega, b2⟩

/-! ### what was noted -/
/-- Nothing to be done any more. -/
def Done (ms : List Mk) (n s : Int) : Prop := ¬ (1 ≤ n ∧ n ≤ 64) ∨ s ≤ (ofM ms n).u ∨ s ∈ (ofM ms n).ab
theorem done_not_fresh {ms : List Mk} {n s : Int} (h : Done ms n s) : freshM ms n s = false := by
  unfold freshM
  rcases h with h | h | h
  · by_cases h1 : 1 ≤ n
    · have h2 : ¬ n ≤ 64 := fun h2 => h ⟨h1, h2⟩
      simp [h1, h2]
    · simp [h1]
  · have : ¬ (ofM ms n).u < s := by omega
    simp [this]
  · simp [h]
theorem insAt_get {α : Type} (xs : List α) (i : Nat) (x : α) (p : α → Bool) (hi : i ≤ xs.length) (hx : p x = false) : (insAt xs i x)[(insAt xs i x).findIdx p]? = xs[xs.findIdx p]? := by
  have key : ∀ (a b : List α), (a ++ [x] ++ b)[(a ++ [x] ++ b).findIdx p]? = (a ++ b)[(a ++ b).findIdx p]? := by
    intro a b
    rw [← List.find?_eq_getElem?_findIdx, ← List.find?_eq_getElem?_findIdx]
    simp [List.find?_append, hx]
  have := key (xs.take i) (xs.drop i)
  rw [List.take_append_drop] at this
  exact this
theorem ofM_eq (ms : List Mk) (n : Int) : ofM ms n = (ms.find? (fun m => decide (m.o = n))).getD ⟨n, 0, []⟩ := by
  unfold ofM
  rw [List.find?_eq_getElem?_findIdx]
theorem ofM_put_ne (ms : List Mk) (n n' s : Int) (h : n' ≠ n) : ofM (putM ms n (newM ms n s)) n' = ofM ms n' := by
  have ho := newM_o ms n s
  unfold putM
  split
  · rename_i hlt
    have h2 := List.findIdx_getElem (w := hlt)
    simp only [decide_eq_true_eq] at h2
    rw [ofM_eq, ofM_eq]
    congr 1
    generalize ms.findIdx (fun x => decide (x.o = n)) = j at *
    have e : ms = ms.take j ++ ms[j] :: ms.drop (j + 1) := by rw [List.getElem_cons_drop, List.take_append_drop]
    rw [List.set_eq_take_append_cons_drop, if_pos hlt]
    conv => rhs; rw [e]
    rw [List.find?_append, List.find?_append, List.find?_cons_of_neg (by simp [ho]; exact fun h' => h h'.symm), List.find?_cons_of_neg (by simp [h2]; exact fun h' => h h'.symm)]
  · unfold ofM
    rw [insAt_get _ _ _ _ List.findIdx_le_length (by simp [ho]; exact fun h' => h h'.symm)]
theorem ofM_put_eq (ms : List Mk) (n s : Int) : ofM (putM ms n (newM ms n s)) n = newM ms n s := by
  have ho := newM_o ms n s
  rw [ofM_eq]
  unfold putM
  split
  · rename_i hlt
    rw [List.set_eq_take_append_cons_drop, if_pos hlt, List.find?_append]
    have h1 : (ms.take (ms.findIdx (fun x => decide (x.o = n)))).find? (fun m => decide (m.o = n)) = none := by
      rw [List.find?_eq_none]
      intro x hx
      obtain ⟨j, hj, rfl⟩ := List.getElem_of_mem hx
      rw [List.length_take] at hj
      rw [List.getElem_take]
      have := List.not_of_lt_findIdx (p := fun x => decide (x.o = n)) (xs := ms) (i := j) (by omega)
      simpa using this
    rw [h1]
    simp [ho]
  · rename_i hlt
    have hno : ∀ m ∈ ms, ¬ m.o = n := fun m hm hmo => hlt (List.findIdx_lt_length.2 ⟨m, hm, by simp [hmo]⟩)
    simp only [insAt]
    rw [List.append_assoc, List.find?_append]
    have h1 : (ms.take (ms.findIdx (fun x => decide (n < x.o)))).find? (fun m => decide (m.o = n)) = none := by
      rw [List.find?_eq_none]
      intro x hx
      simpa using hno x (List.mem_of_mem_take hx)
    rw [h1]
    simp [ho]
theorem done_mono {ms : List Mk} {n s : Int} (n' s' : Int) (h : Done ms n s) : Done (noteM ms n' s') n s := by
  unfold noteM
  split
  · by_cases hn : n = n'
    · subst hn
      obtain ⟨f1, f2, f3, f4, f5⟩ := newM_facts ms n s'
      rcases h with h | h | h
      · exact .inl h
      · refine .inr (.inl ?_)
        rw [ofM_put_eq]; omega
      · refine .inr ?_
        rw [ofM_put_eq]
        exact f5 s (.inr h)
    · unfold Done at *
      rw [ofM_put_ne _ _ _ _ hn]
      exact h
  · exact h
theorem done_of_note {ms : List Mk} {n s : Int} (h : freshM ms n s = true) : Done (noteM ms n s) n s := by
  obtain ⟨f1, f2, f3, f4, f5⟩ := newM_facts ms n s
  refine .inr ?_
  unfold noteM
  rw [if_pos h, ofM_put_eq]
  exact f5 s (.inl rfl)
theorem fresh_facts {ms : List Mk} {n s : Int} (h : freshM ms n s = true) : 1 ≤ n ∧ n ≤ 64 ∧ (ofM ms n).u < s ∧ s - 8 ≤ (ofM ms n).u ∧ s ∉ (ofM ms n).ab := by
  simp only [freshM, Bool.and_eq_true, decide_eq_true_eq, Bool.not_eq_true', List.contains_eq_mem, decide_eq_false_iff_not] at h
  obtain ⟨⟨⟨⟨h1, h2⟩, h3⟩, h4⟩, h5⟩ := h
  exact ⟨h1, h2, h3, h4, h5⟩
/-- A number up to 8, told, is done ever after. -/
theorem done_small {ms : List Mk} (hr : RL ms) {n s : Int} (hs : s ≤ 8) : Done (noteM ms n s) n s := by
  cases hf : freshM ms n s with
  | true => exact done_of_note hf
  | false =>
    unfold noteM
    rw [hf, if_neg (by simp)]
    unfold Done
    have hu : 0 ≤ (ofM ms n).u := by
      rcases ofM_mem ms n with ⟨_, h1, _⟩ | ⟨_, h1, _⟩
      · exact (hr.1 _ h1).u0
      · rw [h1]; simp
    by_cases h1 : 1 ≤ n ∧ n ≤ 64
    · refine .inr ?_
      by_cases h2 : s ≤ (ofM ms n).u
      · exact .inl h2
      · refine .inr ?_
        simp only [freshM, h1.1, h1.2, show (ofM ms n).u < s by omega, show s - 8 ≤ (ofM ms n).u by omega, decide_true, Bool.true_and, Bool.not_eq_false', List.contains_eq_mem, decide_eq_true_eq] at hf
        exact hf
    · exact .inl h1
theorem RL.note {ms : List Mk} (h : RL ms) (n s : Int) : RL (noteM ms n s) := by
  unfold noteM
  split
  case isFalse => exact h
  rename_i hf
  obtain ⟨f1, f2, f3, f4, f5⟩ := fresh_facts hf
  have ho := newM_o ms n s
  have hof : (∀ x ∈ (ofM ms n).ab, 1 < x - (ofM ms n).u ∧ x - (ofM ms n).u ≤ 8) ∧ (ofM ms n).ab.Pairwise (· < ·) ∧ 0 ≤ (ofM ms n).u := by
    rcases ofM_mem ms n with ⟨_, h1, _⟩ | ⟨_, h1, _⟩
    · exact ⟨(h.1 _ h1).win, (h.1 _ h1).pw, (h.1 _ h1).u0⟩
    · rw [h1]; simp
  obtain ⟨w1, w2, w3⟩ := hof
  have hpw := pw_ins (fun x => x) (ofM ms n).ab s w2 (fun y hy he => f5 (he ▸ hy))
  have hlow := low_pw _ (ofM ms n).u hpw (fun x hx => by
    rcases insAt_mem hx with rfl | hx
    · omega
    · have := w1 x hx; omega)
  have hnew : RM (newM ms n s) := by
    refine ⟨by rw [ho]; exact f1, by rw [ho]; exact f2, ?_, hlow.2, hlow.1⟩
    have := (newM_facts ms n s).2.2.1
    omega
  refine ⟨fun m hm => ?_, ?_⟩
  · rcases putM_mem hm with rfl | hm
    · exact hnew
    · exact h.1 m hm
  · unfold putM
    split
    · rename_i hlt
      have h2 := List.findIdx_getElem (w := hlt)
      simp only [decide_eq_true_eq] at h2
      have hp := h.2
      rw [List.pairwise_iff_getElem] at hp ⊢
      intro i j hi hj hij
      rw [List.length_set] at hi hj
      have := hp i j hi hj hij
      rw [List.getElem_set, List.getElem_set]
      split <;> split
      · omega
      · rename_i e1 e2; subst e1; rw [ho]; rw [h2] at this; exact this
      · rename_i e1 e2; subst e2; rw [ho]; rw [h2] at this; exact this
      · exact this
    · rename_i hlt
      have hno : ∀ m ∈ ms, m.o ≠ (newM ms n s).o := fun m hm hmo => hlt (List.findIdx_lt_length.2 ⟨m, hm, by simp [hmo, ho]⟩)
      have := pw_ins (fun m => m.o) ms (newM ms n s) h.2 hno
      simp only [ho] at this
      exact this
theorem RL.nil : RL [] := ⟨by simp, List.Pairwise.nil⟩
/-! ### numbers in order -/
theorem run_note (n : Int) (k : Int) (h1 : 1 ≤ n) (h2 : n ≤ 64) : freshM [⟨n, k, []⟩] n (k + 1) = true ∧ noteM [⟨n, k, []⟩] n (k + 1) = [⟨n, k + 1, []⟩] := by
  have hf : freshM [⟨n, k, []⟩] n (k + 1) = true := by
    simp [freshM, ofM, h1, h2]
    try omega
  refine ⟨hf, ?_⟩
  unfold noteM
  rw [if_pos hf]
  simp [putM, newM, ofM, insAt, low]
  try omega
theorem run_first (n : Int) (h1 : 1 ≤ n) (h2 : n ≤ 64) : freshM [] n 1 = true ∧ noteM [] n 1 = [⟨n, 1, []⟩] := by
  have hf : freshM [] n 1 = true := by simp [freshM, ofM, h1, h2]
  refine ⟨hf, ?_⟩
  unfold noteM
  rw [if_pos hf]
  simp [putM, newM, ofM, insAt, low]
end Go.Proofs.TryF
