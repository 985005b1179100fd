import Derived.Test.YtccjfglhoghbpaaFnO
import Derived.Test.YtccjfglhoghbpaaPvRow
import Derived.Test.YtccjfglhoghbpaaRows
namespace Go.Proofs.TryF
open Go Go.Pv Go.RowKit Go.ChangeShapes Go.WideShapes Go.ChangeAt
set_option linter.unusedSimpArgs false
set_option linter.unusedVariables false

theorem lb0_ok : LbOk Try.prog lb0 where
  mixed := by kernel_rfl
  ok := okL_of 34 (fun g hg => by
    simp only [lb0, Bool.or_eq_false_iff, beq_eq_false_iff_ne]
    have hg' : 34 ≤ (g : Nat) := hg
    refine ⟨⟨⟨?_, ?_⟩, ?_⟩, ?_⟩ <;> (intro e; subst e; simp at hg')) (look_of (by kernel_rfl))
  intr g t h := by
    simp only [lb0] at h
    split at h
    · rename_i hg
      simp only [Option.some.injEq] at h
      subst h
      rcases hg with rfl | rfl
      · obtain ⟨i, hi⟩ := Option.isSome_iff_exists.1 (show (Try.prog.info? 3).isSome = true by kernel_rfl)
        exact tOver_ok (tR := 4) Try.func29 (by kernel_rfl) (by kernel_rfl) (by kernel_rfl) (by kernel_rfl) Try.underlying33 hi _ rfl
      · obtain ⟨i, hi⟩ := Option.isSome_iff_exists.1 (show (Try.prog.info? 35).isSome = true by kernel_rfl)
        exact tOver_ok (tR := 4) Try.func31 (by kernel_rfl) (by kernel_rfl) (by kernel_rfl) (by kernel_rfl) Try.underlying22 hi _ rfl
    · simp at h
  inl g h := by simp [lb0] at h
  pure g t args s r s' h _ ht := by
    simp only [lb0] at h
    split at h
    · simp only [Option.some.injEq] at h
      subst h
      exact tOver_same ht
    · simp at h
  loc g t args s r s1 s' h _ ht hh := by
    simp only [lb0] at h
    split at h
    · simp only [Option.some.injEq] at h
      subst h
      exact tOver_loc ht hh
    · simp at h
  keep g t args s r s' h ht hw := by
    simp only [lb0] at h
    split at h
    · simp only [Option.some.injEq] at h
      subst h
      exact tOver_keep ht hw
    · simp at h
  push g h := by simp [lb0] at h
theorem lb_cases {g : FuncId} {t : List PV → Sto → Option (PV × Sto)} (h : lb.intr g = some t) : (g = 19 ∧ t = tIns Try.prog 33 1 8) ∨ (g = 20 ∧ t = tClone 1 8) ∨ (g = 21 ∧ t = tClone 3 40) ∨ (g = 24 ∧ t = tIns Try.prog 22 3 40) := by
  simp only [lb] at h
  split at h
  · simp only [Option.some.injEq] at h; exact .inl ⟨by assumption, h.symm⟩
  · split at h
    · simp only [Option.some.injEq] at h; exact .inr (.inl ⟨by assumption, h.symm⟩)
    · split at h
      · simp only [Option.some.injEq] at h; exact .inr (.inr (.inl ⟨by assumption, h.symm⟩))
      · split at h
        · simp only [Option.some.injEq] at h; exact .inr (.inr (.inr ⟨by assumption, h.symm⟩))
        · simp at h
theorem lb_ok : LbOk Try.prog lb where
  mixed := by kernel_rfl
  ok := okL_of 34 (fun g hg => by
    have hg' : 34 ≤ (g : Nat) := hg
    have : Nat.ble g 33 = false := by
      cases hb : Nat.ble g 33 with
      | false => rfl
      | true => have := Nat.le_of_ble_eq_true hb; omega
    simp only [lb, this, Bool.and_false, Bool.false_and]) (look_of (by kernel_rfl))
  intr g t h := by
    rcases lb_cases h with ⟨rfl, rfl⟩ | ⟨rfl, rfl⟩ | ⟨rfl, rfl⟩ | ⟨rfl, rfl⟩
    · exact tIns_ok lb0_ok rfl rfl Try.func19 rfl Try.efl33 (by omega) (ins_19 lb0 rfl rfl) (ins0_19 lb0 rfl)
    · exact tClone_ok lb0_ok rfl rfl Try.func20 rfl (clone20 lb0 rfl)
    · exact tClone_ok lb0_ok rfl rfl Try.func21 rfl (clone21 lb0 rfl)
    · exact tIns_ok lb0_ok rfl rfl Try.func24 rfl Try.efl22 (by omega) (ins_24 lb0 rfl rfl) (ins0_24 lb0 rfl)
  inl g h := by simp [lb] at h
  pure g t args s r s' h hw _ := by
    rcases lb_cases h with ⟨rfl, rfl⟩ | ⟨rfl, rfl⟩ | ⟨rfl, rfl⟩ | ⟨rfl, rfl⟩ <;> exact absurd hw (by decide)
  loc g t args s r s1 s' h hw _ _ := by
    rcases lb_cases h with ⟨rfl, rfl⟩ | ⟨rfl, rfl⟩ | ⟨rfl, rfl⟩ | ⟨rfl, rfl⟩ <;> exact absurd hw (by decide)
  keep g t args s r s' h ht hw := by
    rcases lb_cases h with ⟨rfl, rfl⟩ | ⟨rfl, rfl⟩ | ⟨rfl, rfl⟩ | ⟨rfl, rfl⟩
    · exact tIns_keep ht hw
    · exact tClone_keeps ht hw
    · exact tClone_keeps ht hw
    · exact tIns_keep ht hw
  push g h := by
    simp only [lb, Bool.or_eq_true, beq_iff_eq] at h
    rcases h with rfl | rfl
    · exact ⟨_, rfl, fun args s r s' h => tClone_push h⟩
    · exact ⟨_, rfl, fun args s r s' h => tClone_push h⟩

/-! ### What comes in -/
noncomputable def dI : Dat Try.prog 3 Int := Dat.int .i64 Try.int3 (by kernel_rfl)
noncomputable def dIs : Dat Try.prog 33 (List Int) := Dat.slice Try.underlying33 (by kernel_rfl) dI
noncomputable def dM : Dat Try.prog 35 Mk :=
  Dat.struct Try.underlying35 (FDat.cons dI rfl (FDat.cons dI rfl (FDat.cons dIs rfl (FDat.nil _)))) (by kernel_rfl) (fun y => ⟨y.1, y.2.1, y.2.2.1⟩) (fun m => [I m.o, I m.u, SlI m.ab])
    (fun m => True) (fun m => dI.wt m.o + (dI.wt m.u + (dIs.wt m.ab + 0)) + 1) (fun y => rfl) (fun _ _ => trivial) (fun y => rfl) (fun m => rfl)
noncomputable def dMs : Dat Try.prog 22 (List Mk) := Dat.slice Try.underlying22 (by kernel_rfl) dM
noncomputable def dN : Dat Try.prog 31 (Int × Int) :=
  Dat.struct Try.underlying31 (FDat.cons dI rfl (FDat.cons dI rfl (FDat.nil _))) (by kernel_rfl) (fun y => (y.1, y.2.1)) (fun m => [I m.1, I m.2])
    (fun m => True) (fun m => dI.wt m.1 + (dI.wt m.2 + 0) + 1) (fun y => rfl) (fun _ _ => trivial) (fun y => rfl) (fun m => rfl)
noncomputable def dNs : Dat Try.prog 29 (List (Int × Int)) := Dat.slice Try.underlying29 (by kernel_rfl) dN
theorem dI_wt (n : Int) : dI.wt n = 1 := rfl
theorem dMs_len (ms : List Mk) : ms.length ≤ dMs.wt ms := by
  have h1 := sum_len dM.wt (fun m => by show 1 ≤ _ + 1; omega) ms
  show _ ≤ (ms.map dM.wt).sum + 1
  omega
theorem dIs_len (xs : List Int) : xs.length ≤ dIs.wt xs := by
  have h1 := sum_len dI.wt (fun m => Nat.le_refl 1) xs
  show _ ≤ (xs.map dI.wt).sum + 1
  omega
theorem dMs_ab (ms : List Mk) (m : Mk) (h : m ∈ ms) : m.ab.length ≤ dMs.wt ms := by
  have h1 := sum_mem dM.wt h
  have h2 : dM.wt m = dI.wt m.o + (dI.wt m.u + (dIs.wt m.ab + 0)) + 1 := rfl
  have h3 := dIs_len m.ab
  show _ ≤ (ms.map dM.wt).sum + 1
  omega
theorem dNs_len (ms : List (Int × Int)) : ms.length ≤ dNs.wt ms := by
  have h1 := sum_len dN.wt (fun m => by show 1 ≤ _ + 1; omega) ms
  show _ ≤ (ms.map dN.wt).sum + 1
  omega

/-! ### The measure of the statements -/
theorem bulkAll_sum {H : Type} (l : List (DataW H)) : Ytccjfglhoghbpaa.Rows.uptoBulkAll l = (l.map Ytccjfglhoghbpaa.Rows.uptoBulk).sum := by
  induction l with
  | nil => rfl
  | cons x r ih => simp only [Ytccjfglhoghbpaa.Rows.uptoBulkAll, List.map_cons, List.sum_cons, ih]
theorem meas (H : Type) : Meas H Ytccjfglhoghbpaa.Rows.uptoBulk where
  one d := by
    cases d with
    | lit l => cases l <;> simp [Ytccjfglhoghbpaa.Rows.uptoBulk]
    | _ => simp [Ytccjfglhoghbpaa.Rows.uptoBulk]
  str l := by simp [Ytccjfglhoghbpaa.Rows.uptoBulk]
  slc es rs := by simp only [Ytccjfglhoghbpaa.Rows.uptoBulk, bulkAll_sum]; omega
  agg ps := by simp only [Ytccjfglhoghbpaa.Rows.uptoBulk, bulkAll_sum]; omega
theorem bound {H : Type} {l : List (DataW H)} (hk : Ytccjfglhoghbpaa.Rows.uptoSmall H l = true) : (l.map Ytccjfglhoghbpaa.Rows.uptoBulk).sum ≤ 1048576 := by
  rw [← bulkAll_sum]
  simpa [Ytccjfglhoghbpaa.Rows.uptoSmall] using hk
theorem own : ownKnob Try.prog.godebug = none := by kernel_rfl
theorem laid : laidOutB Try.prog = true := by kernel_rfl
end Go.Proofs.TryF
