import Derived.Test.YtccjfglhoghbpaaFnK
namespace Go.Proofs.TryF
open Go Go.Pv
set_option linter.unusedSimpArgs false
set_option linter.unusedVariables false
set_option maxHeartbeats 2000000
set_option maxRecDepth 20000
theorem tf10 (ms : List Mk) (n s : Int) (h : OkM ms) (hs : Sm s) : TF Try.prog lb 10 [SlM ms, I n, I s] (SlM (noteM ms n s)) := by
  refine TF_ofT rfl Try.func10 rfl ?_
  generalize hQ : FinQ Try.prog Try.f10.results.toList Try.f10.resultTypes.toList (SlM (noteM ms n s)) = Q
  have fin : ∀ (e : Env) (t : Sto), frz Try.prog t (some 22) (e 6) = some (SlM (noteM ms n s)) → Q .ret e t := by
    intro e t hf
    subst hQ
    refine ⟨.inr rfl, [e 6], rfl, ?_⟩
    show ∃ qs, frzs Try.prog t [22] [e 6] = some qs ∧ _
    simp only [frzs, List.head?_cons, hf]
    exact ⟨_, rfl, rfl⟩
  clear hQ
  refine T_seq ?_
  simp
  refine T_seq ?_
  simp
  refine TC_pure rfl rfl (by simp) (by simpa using tf12 ms n s h hs) ?_
  simp
  refine T_seq ?_
  cases hf : freshM ms n s with
  | false =>
    simp [hf]
    exact fin _ _ (by simp [noteM, hf])
  | true =>
    have hno : noteM ms n s = putM ms n (newM ms n s) := by simp [noteM, hf]
    rw [hno] at fin
    simp [hf]
    refine T_seq ?_
    simp
    refine TC_pure rfl rfl (by simp) (by simpa using tf25 ms n h.1) ?_
    obtain ⟨h1, h2, h3⟩ := ofM_ok h n
    have hms := h.1
    simp
    refine T_seq ?_
    simp
    refine T_seq ?_
    simp
    have h1' := h1
    unfold W64 at h1'
    refine T_seqT (T_mono (n10a ms n s (ofM ms n) h1' (atM ms n) _ _ (by simp) (by simp) (by simp) (by simp) (by simp) (by simp) (by simp) (by simp [show lb.own 10 = false from rfl]) (by simp) (by simp)) ?_)
    rintro x e t ⟨rfl, g, g0, g1, g2, g8, g9, g10, g11, gown, gt, hA⟩
    simp only
    have hjl : (ofM ms n).ab.findIdx (fun x => decide (s < x)) ≤ (ofM ms n).ab.length := List.findIdx_le_length
    -- the number itself, at the end
    refine T_cutK (fun e t => ∃ g, e 0 = SlM ms ∧ e 1 = I n ∧ e 2 = I s ∧ e 8 = .ptr 0 0 ∧ e 9 = I (atM ms n) ∧ e 10 = .slice ((insAt (ofM ms n).ab ((ofM ms n).ab.findIdx (fun x => decide (s < x))) s).map I) g ∧ t.own = false ∧ t.get 0 = some (.cells (mc (ofM ms n))) ∧ 1 ≤ t.next) ?_ ?_
    · by_cases hj : (ofM ms n).ab.findIdx (fun x => decide (s < x)) < (ofM ms n).ab.length
      · rw [accA_end hj] at g10 hA
        simp [g0, g1, g2, g8, g9, g10, g11, gt, gown, hj]
        exact Kp.mk ⟨g, by simp [g0], by simp [g1], by simp [g2], by simp [g8], by simp [g9], by simp [g10], by simp [gown], by simp [gt], hA.1⟩
      · have e1 : (ofM ms n).ab.findIdx (fun x => decide (s < x)) = (ofM ms n).ab.length := by omega
        rw [e1] at g10 g11 hA ⊢
        have hl : (accA (ofM ms n).ab (ofM ms n).ab.length s (ofM ms n).ab.length).length = (ofM ms n).ab.length := by rw [accA_len (Nat.le_refl _)]; simp
        have hap := appI (g' := .full) s hA (by rw [hl]; omega)
        rw [accA_end'] at hap
        simp [-Try.ap33, g0, g1, g2, g8, g9, g10, g11, gt, gown, hap]
        exact Kp.mk ⟨_, by simp [g0], by simp [g1], by simp [g2], by simp [g8], by simp [g9], by simp; rfl, by simp [gown], by simp [gt, show ¬ 0 = t.next by have := hA.1; omega, hA.get (show 0 < 1 by omega)], by simp⟩
    clear hA gown gt g0 g1 g2 g8 g9 g10 g11
    rintro e t ⟨g, g0, g1, g2, g8, g9, g10, gown, gt, gn⟩
    refine T_seqT (T_mono (n10b ms n s (ofM ms n).o (ofM ms n).ab (atM ms n) _ (ofM ms n).u e t g ?_ h2 ?_ g0 g1 g2 g8 g9 g10 gown gt gn) ?_)
    · intro x hx
      rcases insAt_mem hx with rfl | hx
      · exact hs
      · exact h3 x hx
    · rw [insAt_len hjl]; omega
    clear gown gt g0 g1 g2 g8 g9 g10
    rintro x e t ⟨rfl, g, g0, g1, g2, g8, g9, g10, gown, gt, gn⟩
    simp only
    refine T_seq ?_
    simp [g0, g1, g2, g8, g9, g10, gt, gown]
    refine T_seq ?_
    simp
    refine T_seq ?_
    simp
    have hm' : newM ms n s = ⟨(ofM ms n).o, (low (ofM ms n).u (insAt (ofM ms n).ab ((ofM ms n).ab.findIdx (fun x => decide (s < x))) s)).1, (low (ofM ms n).u (insAt (ofM ms n).ab ((ofM ms n).ab.findIdx (fun x => decide (s < x))) s)).2⟩ := rfl
    have sl : ∀ (t : Sto) (acc : List PV) (g : Grow) (r : List Mk), normL acc = r.map enc → frz Try.prog t (some 22) (.slice acc g) = some (SlM r) := by
      intro t acc g r h
      have hc : cleanL acc = true := by rw [← cleanL_norm, h]; simp
      simp [hc, h]
    by_cases hat : ms.findIdx (fun x => decide (x.o = n)) < ms.length
    · have e8 : atM ms n = (ms.findIdx (fun x => decide (x.o = n)) : Int) := by simp [atM, idx, hat]
      refine T_cutN _ (T_W (n10c ms n (newM ms n s) g hms _ hat _ _ (by simp [g0]) (by simp [g1]) (by simp [g8]) (by simp [g9, e8]) (by simp) (by simp) (by simp [gown]) (by simp [gn]) (by simp [hm', gt]))) ?_
      clear gown gt g0 g1 g2 g8 g9 g10
      rintro e t ⟨g', acc, hacc, hok, hlen, g8, g9, g13, gown, gt, hA⟩
      have hk0 : ¬ ((ms.findIdx (fun x => decide (x.o = n)) : Int) < 0) := by omega
      refine T_seq ?_
      simp [g8, g9, g13, gt, hk0]
      refine T_seq ?_
      simp [g8, g9, g13, gt, hk0]
      refine T_W ?_
      simp
      refine fin _ _ ?_
      have : putM ms n (newM ms n s) = ms.set (ms.findIdx (fun x => decide (x.o = n))) (newM ms n s) := by simp only [putM]; rw [if_pos hat]
      rw [this]
      simpa using sl t acc g' _ hacc
    · have e8 : atM ms n = -1 := by simp [atM, idx, hat]
      have hp : putM ms n (newM ms n s) = insAt ms (ms.findIdx (fun x => decide (n < x.o))) (newM ms n s) := by simp only [putM]; rw [if_neg hat]
      rw [hp] at fin
      have hjl2 : ms.findIdx (fun x => decide (n < x.o)) ≤ ms.length := List.findIdx_le_length
      refine T_cutN _ (T_W (n10d ms n (newM ms n s) g hms _ _ (by simp [g0]) (by simp [g1]) (by simp [g8]) (by simp [g9, e8]) (by simp) (by simp) (by simp [gown]) (by simp [gn]) (by simp [hm', gt]))) ?_
      clear gown gt g0 g1 g2 g8 g9 g10
      rintro e t ⟨g', acc, hacc, hok, g8, g9, g13, g14, gown, gt, hA⟩
      refine T_seq ?_
      by_cases hj : ms.findIdx (fun x => decide (n < x.o)) < ms.length
      · rw [accA_end hj] at hacc
        simp [g8, g9, g13, g14, gt, hj]
        refine T_seq ?_
        simp [g8, g9, g13, g14, gt, hj]
        refine T_W ?_
        simp
        refine fin _ _ ?_
        simpa using sl t acc g' _ hacc
      · have e1 : ms.findIdx (fun x => decide (n < x.o)) = ms.length := by omega
        rw [e1] at hacc g14 fin
        have hl : acc.length = ms.length := by rw [← normL_length, hacc, List.length_map, accA_len (Nat.le_refl _)]; simp
        have hle : (acc.length + 1) * 40 ≤ 140737488355328 := by rw [hl]; unfold W64 at hms; omega
        have hap := appP (g' := .full) (.agg (mcg g (newM ms n s))) hA hok rfl (by simp) hle
        have hac2 : normL (acc ++ [PV.agg (mcg g (newM ms n s))]) = (insAt ms ms.length (newM ms n s)).map enc := by rw [normL_snoc, hacc, norm_agg, ← accA_end']; simp
        simp [-Try.ap22, g8, g9, g13, g14, gt, gown, hap]
        refine T_seq ?_
        simp [g8, g9, g13, g14, gt]
        refine T_W ?_
        simp
        refine fin _ _ ?_
        simpa using sl t _ .no _ hac2
end Go.Proofs.TryF
