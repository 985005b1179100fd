import Derived.Test.YtccjfglhoghbpaaFnG
import Derived.Test.YtccjfglhoghbpaaPvT
namespace Go.Proofs.TryF
open Go Go.Pv
set_option linter.unusedSimpArgs false
set_option linter.unusedVariables false
set_option maxHeartbeats 2000000
set_option maxRecDepth 20000
def low (u : Int) : List Int → Int × List Int
  | [] => (u, [])
  | x :: xs => if x - 1 = u then low (u + 1) xs else (u, x :: xs)
def putM (ms : List Mk) (n : Int) (m : Mk) : List Mk := if ms.findIdx (fun x => decide (x.o = n)) < ms.length then ms.set (ms.findIdx (fun x => decide (x.o = n))) m else insAt ms (ms.findIdx (fun x => decide (n < x.o))) m
def newM (ms : List Mk) (n s : Int) : Mk :=
  let m := ofM ms n
  let l := low m.u (insAt m.ab (m.ab.findIdx (fun x => decide (s < x))) s)
  ⟨m.o, l.1, l.2⟩
def noteM (ms : List Mk) (n s : Int) : List Mk := if freshM ms n s = true then putM ms n (newM ms n s) else ms

/-- The goto's text, and what is behind its label. -/
noncomputable def body9 : Code := match Try.f9.body with
  | some (.seq _ (.scope b)) => b
  | _ => .skip
noncomputable def rest9 : Code := (findLabel body9 0).getD .skip
theorem body9_eq : ∃ a, Try.f9.body = some (.seq a (.scope body9)) := ⟨_, rfl⟩
theorem rest9_eq : findLabel body9 0 = some rest9 := by kernel_rfl
theorem low_step {x u : Int} {l : List Int} (h : x - 1 = u) : low u (x :: l) = low (u + 1) l := by simp [low, h]
theorem low_stop {x u : Int} {l : List Int} (h : ¬ x - 1 = u) : low u (x :: l) = (u, x :: l) := by simp [low, h]

noncomputable def ab9 : Code := match rest9 with
  | .seq .skip (.seq a _) => a
  | _ => .skip
noncomputable def tail9 : Code := match rest9 with
  | .seq .skip (.seq _ b) => b
  | _ => .skip
theorem rest9_parts : rest9 = .seq .skip (.seq ab9 tail9) := rfl
theorem sum3 (ms : List Mk) : (List.map (fun _ => 3) ms).sum = ms.length * 3 := by
  induction ms with
  | nil => rfl
  | cons x xs ih => simp [ih]; omega
theorem setM (ms : List Mk) (j : Nat) (m : Mk) (hj : j < ms.length) : writeAt (ms.flatMap mc) (j * 3) (mc m) = (ms.set j m).flatMap mc := by
  have hl := cellsM_len ms
  rw [writeAt_eq _ _ _ (by rw [hl]; simp [mc]; omega)]
  have e : j * 3 + (mc m).length = (j + 1) * 3 := by simp [mc]; omega
  rw [e, takeM, dropM, List.set_eq_take_append_cons_drop, if_pos hj]
  simp
theorem tail_ok9 (ms : List Mk) (n : Int) (m : Mk) (Q : Qn) (h : OkM ms)
    (hQ : ∀ (e : Env) (s : Sto), frz Try.prog s (some 22) (e 6) = some (SlM (putM ms n m)) → Q .ret e s)
    (e : Env) (s : Sto) (h0 : e 0 = SlM ms) (h4 : e 4 = .ptr 0 0) (h7 : e 7 = .ptr 2 0) (h8 : e 8 = I (atM ms n)) (hown : s.own = false) (hn : 2 < s.next) (hs0 : s.get 0 = some (.cells [I n])) (hs2 : s.get 2 = some (.cells (mc m))) : T Try.prog lb tail9 Q e s := by
  refine T_W ?_
  have hlen := h.1
  unfold W64 at hlen
  have hm40 : ms.length * 40 ≤ 140737488355328 := by omega
  have hcl := cloneM s ms .no hm40
  by_cases hms : ms = []
  · subst hms
    simp [tail9, rest9, body9, Try.f9, findLabel, h0, h4, h7, h8, hs0, hs2]
    refine TC_intr rfl (show tClone 3 40 [SlM []] s = some (.slice [] .full, s) from rfl) ?_
    have e8 : atM [] n = -1 := rfl
    simp [h0, h4, h7, h8, hs0, hs2, e8]
    refine TC_borrow (args' := [SlM [], .fn (.func 23) [] [.rptr [I n]]]) rfl rfl (by simp) ?_ (tf22 [] 23 n _ ⟨rfl, rfl, rfl⟩ (fun m => tf23 m n) h.1) (by simp [memfree, memfree1]) ?_
    · have hp : paramsOf Try.prog 22 = [22, 46] := rfl
      rw [hp]
      simp [hs0]
    have e9 : idx (fun x => decide (n < x.o)) ([] : List Mk) = -1 := rfl
    simp [e9, h0, h4, h7, h8, hs0, hs2]
    refine TC_intr rfl (insM0 s m .full) ?_
    simp
    exact hQ _ _ (by simp [putM, insAt])
  · simp [tail9, rest9, body9, Try.f9, findLabel, h0, h4, h7, h8, hs0, hs2]
    refine TC_intr rfl (by rw [hcl, if_neg hms]) ?_
    by_cases hat : ms.findIdx (fun x => decide (x.o = n)) < ms.length
    · have e8 : atM ms n = (ms.findIdx (fun x => decide (x.o = n)) : Int) := by simp [atM, idx, hat]
      have z1 : ¬ (2 = s.next) := by omega
      have z2 : ms.findIdx (fun x => decide (x.o = n)) * 3 + 3 ≤ ms.length * 3 := by omega
      have z3 := setM ms _ m hat
      have z4 := cellsM_len (ms.set (ms.findIdx (fun x => decide (x.o = n))) m)
      have z5 := chM (ms.set (ms.findIdx (fun x => decide (x.o = n))) m)
      rw [List.length_set] at z4 z5
      simp [h0, h4, h7, h8, hs0, hs2, e8, hat, z1, z2, sum3]
      refine hQ _ _ ?_
      have z6 : ∀ l : List PV, writeAt l (ms.findIdx (fun x => decide (x.o = n)) * 3) (mc m) = (((l.set (ms.findIdx (fun x => decide (x.o = n)) * 3) (I m.o)).set (ms.findIdx (fun x => decide (x.o = n)) * 3 + 1) (I m.u)).set (ms.findIdx (fun x => decide (x.o = n)) * 3 + 1 + 1) (SlI m.ab)) := fun l => rfl
      rw [z6] at z3
      simp [ownCells, putM, hat, sum3]
      rw [z3, ← z4, List.take_length]
      simp [clM', noM', z5]
    · have e8 : atM ms n = -1 := by simp [atM, idx, hat]
      have z1 : ¬ (2 = s.next) := by omega
      have z0 : ¬ (0 = s.next) := by omega
      have z4 := cellsM_len ms
      have z5 := chM ms
      simp [h0, h4, h7, h8, hs0, hs2, e8]
      refine TC_borrow (args' := [SlM ms, .fn (.func 23) [] [.rptr [I n]]]) rfl rfl (by simp) ?_ (tf22 ms 23 n _ ⟨rfl, rfl, rfl⟩ (fun m => tf23 m n) h.1) (by simp [memfree, memfree1]) ?_
      · have hp : paramsOf Try.prog 22 = [22, 46] := rfl
        rw [hp]
        simp [ownCells, sum3, hs0, z0, z1]
        rw [← z4, List.take_length]
        simp [clM', noM', z5]
      have hjl : ms.findIdx (fun x => decide (n < x.o)) ≤ ms.length := List.findIdx_le_length
      have fin : ∀ (k : Int), k = (ms.findIdx (fun x => decide (n < x.o)) : Int) → tIns Try.prog 22 3 40 [.oslice s.next 0 ms.length none 3, I k, .slice [enc m] .full] (s.push (.cells (ms.flatMap mc))) = some (SlM (putM ms n m), ⟨(s.push (.cells (ms.flatMap mc))).next + 1, ((s.push (.cells (ms.flatMap mc))).set s.next none).get, (s.push (.cells (ms.flatMap mc))).own⟩) := by
        intro k hk
        rw [insM _ _ ms k m .full (by simp) (by omega) (by omega) (by omega)]
        simp [putM, hat, hk]
      by_cases hj : ms.findIdx (fun x => decide (n < x.o)) < ms.length
      · have e9 : idx (fun x => decide (n < x.o)) ms = (ms.findIdx (fun x => decide (n < x.o)) : Int) := by simp [idx, hj]
        have e10 : ¬ ((ms.findIdx (fun x => decide (n < x.o)) : Int) < 0) := by omega
        simp [e9, e10, h0, h4, h7, h8, hs0, hs2, z1, z0]
        refine TC_intr rfl (fin _ rfl) ?_
        simp
        exact hQ _ _ (by simp)
      · have e9 : idx (fun x => decide (n < x.o)) ms = -1 := by simp [idx, hj]
        have e11 : ms.findIdx (fun x => decide (n < x.o)) = ms.length := by omega
        simp [e9, h0, h4, h7, h8, hs0, hs2, z1, z0]
        refine TC_intr rfl (fin _ (by rw [e11])) ?_
        simp
        exact hQ _ _ (by simp)
theorem loop9 (ms : List Mk) (n o : Int) (Q : Qn) (h : OkM ms) (r : List Mk)
    (hQ : ∀ (e : Env) (s : Sto), frz Try.prog s (some 22) (e 6) = some (SlM r) → Q .ret e s) :
    ∀ (l : List Int) (u : Int) (e : Env) (s : Sto), (∀ x ∈ l, Sm x) → Sm u → l.length ≤ 1099511627777 → e 0 = SlM ms → e 4 = .ptr 0 0 → e 7 = .ptr 2 0 → e 8 = I (atM ms n) → s.own = false → 2 < s.next → s.get 0 = some (.cells [I n]) → s.get 2 = some (.cells [I o, I u, SlI l]) → putM ms n ⟨o, (low u l).1, (low u l).2⟩ = r →
    TS Try.prog lb body9 rest9 Q e s := by
    intro l
    induction l with
    | nil =>
      intro u e s hl hu hlen h0 h4 h7 h8 hown hn hs0 hs2 hr
      refine TS_T ?_
      rw [rest9_parts]
      refine T_seq ?_
      simp only [W_skip]
      refine T_seq ?_
      simp [ab9, rest9, body9, Try.f9, findLabel, h0, h4, h7, h8, hs0, hs2]
      refine tail_ok9 ms n ⟨o, u, []⟩ _ h ?_ _ _ (by simp [h0]) (by simp [h4]) (by simp [h7]) (by simp [h8]) hown hn hs0 hs2
      intro e s hf
      exact hQ e s (by rw [hf, ← hr]; rfl)
    | cons x l ih =>
      intro u e s hl hu hlen h0 h4 h7 h8 hown hn hs0 hs2 hr
      refine TS_T ?_
      rw [rest9_parts]
      refine T_seq ?_
      simp only [W_skip]
      refine T_seq ?_
      have hx : Sm x := hl x (by simp)
      have w1 : IntKind.i64.wrap (x - 1) = x - 1 := by unfold Sm at hx; exact wrap_id (by omega) (by omega)
      have w2 : IntKind.i64.wrap (u + 1) = u + 1 := by unfold Sm at hu; exact wrap_id (by omega) (by omega)
      by_cases hc : x - 1 = u
      · have w4 : IntKind.i64.wrap (x - 1) = u := by rw [w1, hc]
        have w5 : (1 : Int) ≤ (l.length : Int) + 1 := by omega
        simp [ab9, rest9, body9, Try.f9, findLabel, h0, h4, h7, h8, hs0, hs2, w4, w2, w5]
        refine ih (u + 1) _ _ (fun y hy => hl y (by simp [hy])) (by unfold Sm at *; omega) (by simp at hlen; omega) (by simp [h0]) (by simp [h4]) (by simp [h7]) (by simp [h8]) (by simp [hown]) (by simp [hn]) (by simp [hs0]) (by simp; exact List.take_of_length_le (by simp)) (by rw [← hr, low_step hc])
      · simp [ab9, rest9, body9, Try.f9, findLabel, h0, h4, h7, h8, hs0, hs2, w1, w2, hc]
        refine tail_ok9 ms n ⟨o, u, x :: l⟩ _ h ?_ _ _ (by simp [h0]) (by simp [h4]) (by simp [h7]) (by simp [h8]) hown hn hs0 hs2
        intro e s hf
        exact hQ e s (by rw [hf, ← hr, low_stop hc])
end Go.Proofs.TryF
