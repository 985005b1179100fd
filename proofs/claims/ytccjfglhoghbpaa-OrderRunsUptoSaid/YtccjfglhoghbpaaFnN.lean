import Derived.Test.YtccjfglhoghbpaaPlA
import Derived.Test.YtccjfglhoghbpaaPvEq
namespace Go.Proofs.TryF
open Go Go.Pv
set_option linter.unusedSimpArgs false
set_option linter.unusedVariables false
set_option maxHeartbeats 2000000
set_option maxRecDepth 20000
theorem und4 : Try.prog.underlying 4 = some .bool := by kernel_rfl
@[simp] theorem eqB4 (x y : Operand) (c d : Bool) : evBin Try.prog .eql 4 x y (.lit (.bool c)) (.lit (.bool d)) = some (.lit (.bool (c == d))) := evBin_eqB und4 x y c d
theorem sFl31 : sFl Try.prog 31 = some (false, [(true, 3, 0), (true, 3, 1)]) := by kernel_rfl
@[simp] theorem eqT31 (x y : Operand) (a b c d : Int) : evBin Try.prog .eql 31 x y (.agg [I a, I b]) (.agg [I c, I d]) = some (.lit (.bool ([a == c, b == d].all id))) :=
  evBin_eqT sFl31 rfl rfl (.cons (.int .i64 a) (.int .i64 c) (part1 _ 0 Try.lay3 rfl) (part1 _ 0 Try.lay3 rfl) (eqI Try.int3 9998 a c) (.cons (.int .i64 b) (.int .i64 d) (part1 _ 1 Try.lay3 rfl) (part1 _ 1 Try.lay3 rfl) (eqI Try.int3 9998 b d) .nil))
theorem bd_of_few {k : Nat} (ms : List Mk) (s : Int) (hx : ms.length ≤ k) (hm : ∀ m ∈ ms, m.ab.length ≤ k) (h : fewM ms s = true) : Bd k ms ∧ (-1099511627776 ≤ s ∧ s ≤ 1099511627776) := by
  simp only [fewM, inS, Bool.and_eq_true, decide_eq_true_eq, List.all_eq_true] at h
  obtain ⟨h1, h2⟩ := h
  refine ⟨⟨hx, fun m hmm => ⟨hm m hmm, ?_, fun x hxx => ?_⟩⟩, ?_⟩
  · have := (h2 m hmm).1; omega
  · have := (h2 m hmm).2 x hxx; omega
  · omega
theorem law3 (ms : List Mk) (n s : Int) (hx : ms.length ≤ 1048576) (hm : ∀ m ∈ ms, m.ab.length ≤ 1048576) : TF Try.prog lb 3 [SlM ms, I n, I s] (B true) := by
  refine TF_of rfl Try.func3 rfl ?_
  unfold WF
  simp
  refine TC_pure rfl rfl (by simp) tf6 ?_
  simp
  refine TC_pure rfl rfl (by simp) (by simpa using tf7 ms s (by unfold W64; omega) (fun m h => by have := hm m h; unfold W64; omega)) ?_
  cases hf : fewM ms s with
  | false => simp
  | true =>
    obtain ⟨hb, hs1, hs2⟩ := bd_of_few ms s hx hm hf
    have hok := hb.ok (by omega)
    have hok2 := (hb.note n s hs1 hs2).ok (by omega)
    have hs : Sm s := by unfold Sm; omega
    simp
    refine TC_pure rfl rfl (by simp) (by simpa using tf9 ms n s hok hs) ?_
    simp
    refine TC_pure rfl rfl (by simp) (by simpa using tf10 ms n s hok hs) ?_
    simp
    refine TC_pure rfl rfl (by simp) (by simpa using tf8 (noteM ms n s) (noteM ms n s) hok2) ?_
    simp
    refine TC_pure rfl rfl (by simp) (by simpa using tf11 ms n s hok hs) ?_
    simp
    refine TC_pure rfl rfl (by simp) (by simpa using tf12 ms n s hok hs) ?_
    simp
    refine TC_pure rfl rfl (by simp) (by simpa using tf13 ms hok) ?_
    simp
    refine TC_pure rfl rfl (by simp) (by simpa using tf14 ms hok) ?_
    simp

theorem law5 (n k : Int) (hn1 : -9223372036854775808 ≤ n) (hk1 : -9223372036854775808 ≤ k) : TF Try.prog lb 5 [I n, I k] (B true) := by
  refine TF_of rfl Try.func5 rfl ?_
  unfold WF
  simp
  refine TC_pure rfl rfl (by simp) tf6 ?_
  by_cases c1 : n < 1
  · simp [c1]
  by_cases c2 : 64 < n
  · simp [c1, c2]
  by_cases c3 : 300 < k
  · simp [c1, c2, c3]
  simp [c1, c2, c3]
  have d1 : 1 ≤ n := by omega
  have d2 : n ≤ 64 := by omega
  refine TL_inv (fun q e t => ∃ (j : Nat) (ms : List Mk) (g : Grow), (j = 0 ∧ ms = [] ∨ 1 ≤ j ∧ ms = [⟨n, j, []⟩]) ∧ (j : Int) ≤ max k 0 ∧ q = 301 - j ∧ e 0 = I n ∧ e 1 = I k ∧ e 5 = B true ∧ e 6 = .slice (ms.map enc) g ∧ e 7 = I (j + 1 : Nat)) 301 ⟨0, [], .full, by simp; omega⟩ ?_
  rintro q e t ⟨j, ms, g, hj, hjk, rfl, g0, g1, g5, g6, g7⟩
  by_cases hlt : ((j + 1 : Nat) : Int) ≤ k
  · have hms : freshM ms n (j + 1 : Nat) = true ∧ noteM ms n (j + 1 : Nat) = [⟨n, (j + 1 : Nat), []⟩] ∧ Bd 1 ms := by
      rcases hj with ⟨rfl, rfl⟩ | ⟨h1, rfl⟩
      · have := run_first n d1 d2
        exact ⟨this.1, this.2, by simp, by simp⟩
      · have := run_note n j d1 d2
        refine ⟨this.1, this.2, by simp, ?_⟩
        intro m hm
        simp at hm
        subst hm
        simp
        omega
    obtain ⟨f1, f2, f3⟩ := hms
    have hs : Sm (j + 1 : Nat) := by unfold Sm; omega
    have hok := f3.ok (by omega)
    have w3 : IntKind.i64.wrap (((j + 1 : Nat) : Int) + 1) = ((j + 1 + 1 : Nat) : Int) := wrapN (by omega)
    have t11 := tf11 ms n (j + 1 : Nat) hok hs
    have t9 := tf9 ms n (j + 1 : Nat) hok hs
    rw [f1] at t11
    rw [f2] at t9
    generalize hjj : ((j + 1 : Nat) : Int) = jj at *
    simp [g0, g1, g5, g6, g7, hlt]
    refine TC_pure rfl rfl (by simp) (by simpa using t11) ?_
    simp [g0, g1, g5, g6, g7, hlt]
    refine TC_pure rfl rfl (by simp) (by simpa using t9) ?_
    simp [g0, g1, g5, g6, g7, hlt, w3]
    refine ⟨301 - (j + 1), by omega, Kn.mk ?_⟩
    exact ⟨j + 1, [⟨n, jj, []⟩], .no, .inr ⟨by omega, by rw [← hjj]⟩, by omega, rfl, by simp [g0], by simp [g1], by simp [g5], by simp, by simp [← hjj]⟩
  · have hjk3 : ¬ ((j + 1 : Nat) : Int) ≤ k := hlt
    generalize hjj : ((j + 1 : Nat) : Int) = jj at g7 hlt
    by_cases c4 : k < 1
    · simp [g0, g1, g5, g6, g7, hlt, c4]
    · have hjk2 : (j : Int) = k := by omega
      rcases hj with ⟨rfl, rfl⟩ | ⟨h1, rfl⟩
      · omega
      · simp [g0, g1, g5, g6, g7, hlt, c4, hjk2]
end Go.Proofs.TryF
