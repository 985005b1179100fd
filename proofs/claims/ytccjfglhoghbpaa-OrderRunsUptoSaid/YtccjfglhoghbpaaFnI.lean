import Derived.Test.YtccjfglhoghbpaaFnH
namespace Go.Proofs.TryF
open Go Go.Pv
set_option linter.unusedSimpArgs false
set_option linter.unusedVariables false
set_option maxHeartbeats 2000000
set_option maxRecDepth 20000
theorem insAt_mem {α : Type} {xs : List α} {i : Nat} {x y : α} (h : y ∈ insAt xs i x) : y = x ∨ y ∈ xs := by
  simp only [insAt, List.mem_append, List.mem_singleton] at h
  rcases h with (h | h) | h
  · exact .inr (List.mem_of_mem_take h)
  · exact .inl h
  · exact .inr (List.mem_of_mem_drop h)
theorem body9_ok (ms : List Mk) (n s : Int) (h : OkM ms) (hs : Sm s) (Q : Qn)
    (hQ : ∀ (e : Env) (t : Sto), frz Try.prog t (some 22) (e 6) = some (SlM (noteM ms n s)) → Q .ret e t)
    (e : Env) (t : Sto) (b0 : e 0 = SlM ms) (b4 : e 4 = .ptr 0 0) (b5 : e 5 = .ptr 1 0) (bown : t.own = false) (bn : t.next = 2) (bs0 : t.get 0 = some (.cells [I n])) (bs1 : t.get 1 = some (.cells [I s])) : TS Try.prog lb body9 body9 Q e t := by
  refine TS_T ?_
  have hb : body9 = body9 := rfl
  conv => arg 3; unfold body9
  simp only [Try.f9]
  refine T_seq ?_
  simp [b0, b4, b5, bs0, bs1]
  refine TC_pure rfl rfl (by simp) (by simpa using tf11 ms n s h hs) ?_
  cases hf : freshM ms n s with
  | false =>
    simp [hf, noteM, b0, b4, b5, bs0, bs1]
    exact hQ _ _ (by simp [noteM, hf])
  | true =>
    have hno : noteM ms n s = putM ms n (newM ms n s) := by simp [noteM, hf]
    rw [hno] at hQ
    simp [b0, b4, b5, bs0, bs1]
    refine T_seq ?_
    simp [b0, b4, b5, bs0, bs1]
    refine TC_pure rfl rfl (by simp) (by simpa using tf16 ms n h.1) ?_
    obtain ⟨h1, h2, h3⟩ := ofM_ok h n
    simp [b0, b4, b5, bs0, bs1]
    refine T_seq ?_
    simp [b0, b4, b5, bs0, bs1, bn]
    refine TC_borrow rfl rfl (by simp) (by simp [bs1, bn]; rfl) (by simpa using tf17 (ofM ms n).ab s h1) (by simp [memfree, memfree1]) ?_
    simp [b0, b4, b5, bs0, bs1, bn]
    have hij : (ofM ms n).ab.findIdx (fun x => decide (s < x)) ≤ (ofM ms n).ab.length := List.findIdx_le_length
    refine T_seqT (T_mono (Q := fun x e t => x = .normal ∧ e 0 = SlM ms ∧ e 4 = .ptr 0 0 ∧ e 5 = .ptr 1 0 ∧ e 7 = .ptr 2 0 ∧ e 8 = I (atM ms n) ∧ e 9 = I ((ofM ms n).ab.findIdx (fun x => decide (s < x)) : Nat) ∧ t.own = false ∧ t.next = 3 ∧ t.get 0 = some (.cells [I n]) ∧ t.get 1 = some (.cells [I s]) ∧ t.get 2 = some (.cells (mc (ofM ms n)))) (T_W ?_) ?_)
    · by_cases hi : (ofM ms n).ab.findIdx (fun x => decide (s < x)) < (ofM ms n).ab.length
      · have e1 : idx (fun x => decide (s < x)) (ofM ms n).ab = ((ofM ms n).ab.findIdx (fun x => decide (s < x)) : Int) := by simp [idx, hi]
        have e2 : ¬ (((ofM ms n).ab.findIdx (fun x => decide (s < x)) : Int) < 0) := by omega
        simp [e1, e2, b0, b4, b5, bs0, bs1, bn, bown]
      · have e1 : idx (fun x => decide (s < x)) (ofM ms n).ab = -1 := by simp [idx, hi]
        have e2 : (ofM ms n).ab.findIdx (fun x => decide (s < x)) = (ofM ms n).ab.length := by omega
        simp [e1, e2, b0, b4, b5, bs0, bs1, bn, bown]
    · rintro x e t ⟨rfl, g0, g4, g5, g7, g8, g9, gown, gn, gs0, gs1, gs2⟩
      simp only
      refine T_seq ?_
      have hm8 : (ofM ms n).ab.length * 8 ≤ 140737488355328 := by unfold W64 at h1; omega
      have hcl := cloneI t (ofM ms n).ab .no hm8
      have fin : ∀ (e : Env) (t : Sto), e 0 = SlM ms → e 4 = .ptr 0 0 → e 7 = .ptr 2 0 → e 8 = I (atM ms n) → t.own = false → 2 < t.next → t.get 0 = some (.cells [I n]) → t.get 2 = some (.cells [I (ofM ms n).o, I (ofM ms n).u, SlI (insAt (ofM ms n).ab ((ofM ms n).ab.findIdx (fun x => decide (s < x))) s)]) → TS Try.prog lb body9 rest9 Q e t := by
        intro e t g0 g4 g7 g8 gown gn gs0 gs2
        refine loop9 ms n (ofM ms n).o _ h (putM ms n (newM ms n s)) hQ _ (ofM ms n).u e t ?_ h2 ?_ g0 g4 g7 g8 gown gn gs0 gs2 rfl
        · intro x hx
          rcases insAt_mem hx with rfl | hx
          · exact hs
          · exact h3 x hx
        · rw [insAt_len hij]; unfold W64 at h1; omega
      by_cases hab : (ofM ms n).ab = []
      · rw [if_pos hab] at hcl
        have hi0 : (ofM ms n).ab.findIdx (fun x => decide (s < x)) = 0 := by rw [hab]; rfl
        rw [hi0] at g9 fin
        simp [g0, g4, g5, g7, g8, g9, gs0, gs1, gs2, gn]
        refine TC_intr rfl (show tClone 1 8 _ _ = _ from hcl) ?_
        simp [g0, g4, g5, g7, g8, g9, gs0, gs1, gs2, gn]
        refine TC_intr rfl (insI0 t s .full) ?_
        simp [g0, g4, g5, g7, g8, g9, gs0, gs1, gs2, gn]
        refine T_behind ?_
        show T Try.prog lb rest9 _ _ _
        exact T_of_TS (fin _ _ (by simp [g0]) (by simp [g4]) (by simp [g7]) (by simp [g8]) (by simp [gown]) (by simp [gn]) (by simp [gs0]) (by simp [insAt, hab, gs0, gs1, gs2, gn]))
      · rw [if_neg hab] at hcl
        simp [g0, g4, g5, g7, g8, g9, gs0, gs1, gs2, gn]
        refine TC_intr rfl (show tClone 1 8 _ _ = _ from hcl) ?_
        simp [g0, g4, g5, g7, g8, g9, gs0, gs1, gs2, gn]
        refine TC_intr rfl (insI (t.push (.cells ((ofM ms n).ab.map I))) 3 (ofM ms n).ab _ s .full (by simp [gn]) (by omega) (by omega) (fun _ => trivial) (by unfold W64 at h1; omega)) ?_
        simp [g0, g4, g5, g7, g8, g9, gs0, gs1, gs2, gn]
        refine T_behind ?_
        show T Try.prog lb rest9 _ _ _
        exact T_of_TS (fin _ _ (by simp [g0]) (by simp [g4]) (by simp [g7]) (by simp [g8]) (by simp [gown]) (by simp [gn]) (by simp [gs0, gn]) (by simp [gs0, gs1, gs2, gn]))
theorem tf9 (ms : List Mk) (n s : Int) (h : OkM ms) (hs : Sm s) : TF Try.prog lb 9 [SlM ms, I n, I s] (SlM (noteM ms n s)) := by
  refine TF_of rfl Try.func9 rfl ?_
  unfold WF
  simp only [W_seq, W_region, WG_cons]
  simp
  refine body9_ok ms n s h hs _ ?_ _ _ (by simp) (by simp) (by simp) (by simp [show lb.own 9 = false from rfl]) (by simp) (by simp) (by simp)
  intro e t hf
  show ∃ qs, frzs Try.prog t [22] [e 6] = some qs ∧ resultOf qs = _
  simp only [frzs, List.head?_cons, hf]
  exact ⟨_, rfl, rfl⟩
end Go.Proofs.TryF
