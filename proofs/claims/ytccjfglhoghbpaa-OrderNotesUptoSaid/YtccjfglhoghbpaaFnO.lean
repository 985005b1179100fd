import Derived.Test.YtccjfglhoghbpaaFnN
namespace Go.Proofs.TryF
open Go Go.Pv
set_option linter.unusedSimpArgs false
set_option linter.unusedVariables false
set_option maxHeartbeats 2000000
set_option maxRecDepth 20000
abbrev encN (p : Int × Int) : PV := .agg [I p.1, I p.2]
abbrev SlN (l : List (Int × Int)) : PV := .slice (l.map encN) .no
def inR (s : Int) : Prop := -1099511627776 ≤ s ∧ s ≤ 1099511627776
theorem TF_conv {g : FuncId} {a b : List PV} {r : PV} (h : TF Try.prog lb g a r) (e : a = b) : TF Try.prog lb g b r := e ▸ h
noncomputable def inner4 : Code := match Try.f4.body with
  | some (.seq _ (.seq _ (.seq _ (.seq (.seq _ (.block _ (.loop (.seq _ (.seq (.block _ (.seq _ (.seq _ (.seq _ (.seq _ (.seq _ (.seq (.seq _ (.block _ (.loop c))) _))))))) _))))) _)))) => c
  | _ => .skip
/-- No elder number is like this one. -/
theorem notes_in (l : List (Int × Int)) (i : Nat) (hi : i < l.length) (hlen : l.length ≤ 1048576) (f : Bool) (hno : f = true → ∀ k, (hk : k < i) → ¬ (l[k] = l[i] ∧ l[k].2 ≤ 8)) (r : List Mk) (Q : Qn)
    (hQ : ∀ (e : Env) (t : Sto), e 0 = SlN l → e 3 = B true → e 4 = SlM r → e 5 = I i → e 6 = B f → Q (.exit 2) e t)
    (e : Env) (t : Sto) (g0 : e 0 = SlN l) (g3 : e 3 = B true) (g4 : e 4 = SlM r) (g5 : e 5 = I i) (g6 : e 6 = B f) (g8 : e 8 = I 0) : TL Try.prog lb inner4 Q e t := by
  simp only [inner4, Try.f4]
  refine TL_inv (fun q e t => ∃ k : Nat, k ≤ i ∧ q = i - k ∧ e 0 = SlN l ∧ e 3 = B true ∧ e 4 = SlM r ∧ e 5 = I i ∧ e 6 = B f ∧ e 8 = I k) i ⟨0, by simp [g0, g3, g4, g5, g6, g8]⟩ ?_
  clear g0 g3 g4 g5 g6 g8
  rintro q e t ⟨k, hk, rfl, g0, g3, g4, g5, g6, g8⟩
  by_cases hlt : k < i
  case neg =>
    simp [g0, g3, g4, g5, g6, g8, hlt]
    exact hQ _ _ (by simp [g0]) (by simp [g3]) (by simp [g4]) (by simp [g5]) (by simp [g6])
  cases f with
  | false =>
    simp [g0, g3, g4, g5, g6, g8, hlt]
    exact hQ _ _ (by simp [g0]) (by simp [g3]) (by simp [g4]) (by simp [g5]) (by simp [g6])
  | true =>
    have hkl : k < l.length := by omega
    have w3 : IntKind.i64.wrap ((k : Int) + 1) = ((k + 1 : Nat) : Int) := wrapN (by omega)
    have hn := hno rfl k hlt
    have fin : ∀ (e : Env) (t : Sto), e 0 = SlN l → e 3 = B true → e 4 = SlM r → e 5 = I i → e 6 = B true → e 8 = I (k + 1 : Nat) → ∃ m, m < i - k ∧ Kn (fun q e t => ∃ k : Nat, k ≤ i ∧ q = i - k ∧ e 0 = SlN l ∧ e 3 = B true ∧ e 4 = SlM r ∧ e 5 = I i ∧ e 6 = B true ∧ e 8 = I k) ⟨⟩ m e t := by
      intro e t k0 k3 k4 k5 k6 k8
      refine ⟨i - (k + 1), by omega, Kn.mk ?_⟩
      exact ⟨k + 1, by omega, rfl, k0, k3, k4, k5, k6, k8⟩
    by_cases q1 : l[k].1 = l[i].1
    case neg =>
      simp [g0, g3, g4, g5, g6, g8, hlt, hi, hkl, q1, w3]
      exact fin _ _ (by simp [g0]) (by simp [g3]) (by simp [g4]) (by simp [g5]) (by simp [g6]) (by simp)
    by_cases q2 : l[k].2 = l[i].2
    case neg =>
      simp [g0, g3, g4, g5, g6, g8, hlt, hi, hkl, q1, q2, w3]
      exact fin _ _ (by simp [g0]) (by simp [g3]) (by simp [g4]) (by simp [g5]) (by simp [g6]) (by simp)
    by_cases q3 : l[i].2 ≤ 8
    · exact absurd ⟨Prod.ext q1 q2, by rw [q2]; exact q3⟩ hn
    · simp [g0, g3, g4, g5, g6, g8, hlt, hi, hkl, q1, q2, q3, w3]
      exact fin _ _ (by simp [g0]) (by simp [g3]) (by simp [g4]) (by simp [g5]) (by simp [g6]) (by simp)
noncomputable def outer4 : Code := match Try.f4.body with
  | some (.seq _ (.seq _ (.seq _ (.seq (.seq _ (.block _ (.loop c))) _)))) => c
  | _ => .skip
theorem notes_out (l : List (Int × Int)) (hlen : l.length ≤ 1048576) (Q : Qn) (hQ : ∀ (e : Env) (t : Sto), e 3 = B true → Q (.exit 0) e t)
    (e : Env) (t : Sto) (g0 : e 0 = SlN l) (g3 : e 3 = B true) (g4 : e 4 = .slice [] .full) (g5 : e 5 = I 0) : TL Try.prog lb outer4 Q e t := by
  simp only [outer4, Try.f4]
  refine TL_inv (fun q e t => ∃ (i : Nat) (ms : List Mk) (g : Grow), i ≤ l.length ∧ q = l.length - i ∧ RL ms ∧ Bd i ms ∧ (∀ k, (hk : k < l.length) → k < i → inR l[k].2 → l[k].2 ≤ 8 → Done ms l[k].1 l[k].2) ∧ e 0 = SlN l ∧ e 3 = B true ∧ e 4 = .slice (ms.map enc) g ∧ e 5 = I i) l.length ⟨0, [], .full, by simp [g0, g3, g4, g5]; exact ⟨RL.nil, by simp, by simp⟩⟩ ?_
  clear g0 g3 g4 g5
  rintro q e t ⟨i, ms, g, hi, rfl, hr, hb, hd, g0, g3, g4, g5⟩
  by_cases hlt : i < l.length
  case neg =>
    simp [g0, g3, g4, g5, hlt]
    exact hQ _ _ (by simp [g3])
  have w3 : IntKind.i64.wrap ((i : Int) + 1) = ((i + 1 : Nat) : Int) := wrapN (by omega)
  have skip : ¬ inR l[i].2 → ∀ (e : Env) (t : Sto), e 0 = SlN l → e 3 = B true → e 4 = .slice (ms.map enc) g → e 5 = I (i + 1 : Nat) → ∃ m, m < l.length - i ∧ Kn (fun q e t => ∃ (i : Nat) (ms : List Mk) (g : Grow), i ≤ l.length ∧ q = l.length - i ∧ RL ms ∧ Bd i ms ∧ (∀ k, (hk : k < l.length) → k < i → inR l[k].2 → l[k].2 ≤ 8 → Done ms l[k].1 l[k].2) ∧ e 0 = SlN l ∧ e 3 = B true ∧ e 4 = .slice (ms.map enc) g ∧ e 5 = I i) ⟨⟩ m e t := by
    intro hn e t k0 k3 k4 k5
    refine ⟨l.length - (i + 1), by omega, Kn.mk ?_⟩
    refine ⟨i + 1, ms, g, by omega, rfl, hr, ⟨by have := hb.len; omega, fun m hm => by have := hb.each m hm; exact ⟨by omega, this.2⟩⟩, fun k hk hki hin h8 => ?_, k0, k3, k4, k5⟩
    rcases Nat.lt_or_ge k i with h | h
    · exact hd k hk h hin h8
    · have : k = i := by omega
      subst this
      exact absurd hin hn
  by_cases q1 : 1099511627776 < l[i].2
  · simp [g0, g3, g4, g5, hlt, q1, w3]
    exact skip (by unfold inR; omega) _ _ (by simp [g0]) (by simp [g3]) (by simp [g4]) (by simp)
  by_cases q2 : l[i].2 < -1099511627776
  · simp [g0, g3, g4, g5, hlt, q1, q2, w3]
    exact skip (by unfold inR; omega) _ _ (by simp [g0]) (by simp [g3]) (by simp [g4]) (by simp)
  have hin : inR l[i].2 := by unfold inR; omega
  have hok := hb.ok (by omega)
  have hs : Sm l[i].2 := by unfold Sm; omega
  have hb2 := hb.note l[i].1 l[i].2 hin.1 hin.2
  have hok2 := hb2.ok (by omega)
  have hr2 := hr.note l[i].1 l[i].2
  have t14 := tf14 _ hok2
  rw [(rightL_iff _).2 hr2] at t14
  have nxt : ∀ (e : Env) (t : Sto), e 0 = SlN l → e 3 = B true → e 4 = SlM (noteM ms l[i].1 l[i].2) → e 5 = I (i + 1 : Nat) → ∃ m, m < l.length - i ∧ Kn (fun q e t => ∃ (i : Nat) (ms : List Mk) (g : Grow), i ≤ l.length ∧ q = l.length - i ∧ RL ms ∧ Bd i ms ∧ (∀ k, (hk : k < l.length) → k < i → inR l[k].2 → l[k].2 ≤ 8 → Done ms l[k].1 l[k].2) ∧ e 0 = SlN l ∧ e 3 = B true ∧ e 4 = .slice (ms.map enc) g ∧ e 5 = I i) ⟨⟩ m e t := by
    intro e t k0 k3 k4 k5
    refine ⟨l.length - (i + 1), by omega, Kn.mk ?_⟩
    refine ⟨i + 1, noteM ms l[i].1 l[i].2, .no, by omega, rfl, hr2, hb2, fun k hk hki hin h8 => ?_, k0, k3, k4, k5⟩
    rcases Nat.lt_or_ge k i with h | h
    · exact done_mono _ _ (hd k hk h hin h8)
    · have : k = i := by omega
      subst this
      exact done_small hr h8
  have t11 := tf11 ms l[i].1 l[i].2 hok hs
  have t9 := tf9 ms l[i].1 l[i].2 hok hs
  have t11b := tf11 (noteM ms l[i].1 l[i].2) l[i].1 l[i].2 hok2 hs
  simp [g0, g3, g4, g5, hlt, q1, q2]
  refine TC_pure rfl rfl (by simp) (by simpa using t11) ?_
  simp [g0, g3, g4, g5, hlt, q1, q2]
  refine TC_pure rfl rfl (by simp) (by simpa using t9) ?_
  simp [g0, g3, g4, g5, hlt, q1, q2]
  refine TC_pure rfl rfl (by simp) (by simpa using t14) ?_
  simp [g0, g3, g4, g5, hlt, q1, q2]
  refine notes_in l i hlt hlen (freshM ms l[i].1 l[i].2) ?_ (noteM ms l[i].1 l[i].2) _ ?_ _ _ (by simp [g0]) (by simp [g3]) (by simp) (by simp [g5]) (by simp) (by simp)
  · rintro hf k hk ⟨he, h8⟩
    have := done_not_fresh (hd k (by omega) hk (by rw [he]; exact hin) h8)
    rw [he] at this
    rw [hf] at this
    simp at this
  · intro e t k0 k3 k4 k5 k6
    simp [k0, k3, k4, k5, k6, hlt]
    refine TC_pure rfl rfl (by simp) (by simpa using t11b) ?_
    cases hf : freshM ms l[i].1 l[i].2 with
    | false =>
      rw [hf] at k6
      cases hf2 : freshM (noteM ms l[i].1 l[i].2) l[i].1 l[i].2 with
      | false =>
        simp [k0, k3, k4, k5, k6, hlt, w3]
        exact nxt _ _ (by simp [k0]) (by simp [k3]) (by simp [k4]) (by simp)
      | true =>
        simp [k0, k3, k4, k5, k6, hlt, w3]
        exact nxt _ _ (by simp [k0]) (by simp [k3]) (by simp [k4]) (by simp)
    | true =>
      rw [done_not_fresh (done_of_note hf)]
      simp [k0, k3, k4, k5, k6, hlt, w3]
      exact nxt _ _ (by simp [k0]) (by simp [k3]) (by simp [k4]) (by simp)
theorem law4 (l : List (Int × Int)) (hlen : l.length ≤ 1048576) : TF Try.prog lb 4 [SlN l] (B true) := by
  refine TF_of rfl Try.func4 rfl ?_
  unfold WF
  simp
  refine TC_pure rfl rfl (by simp) tf6 ?_
  simp
  refine notes_out l hlen _ ?_ _ _ (by simp) (by simp) (by simp) (by simp)
  intro e t k3
  simp [k3]
end Go.Proofs.TryF
