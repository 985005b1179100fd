import Derived.Test.YtccjfglhoghbpaaFnJ
namespace Go.Proofs.TryF
open Go Go.Pv
set_option linter.unusedSimpArgs false
set_option linter.unusedVariables false
set_option maxHeartbeats 2000000
set_option maxRecDepth 20000
noncomputable def tl : Code → Code
  | .seq _ b => b
  | _ => .skip
noncomputable def hd : Code → Code
  | .seq a _ => a
  | c => c
noncomputable def tls : Nat → Code → Code
  | 0, c => c
  | n + 1, c => tls n (tl c)
theorem n10b (ms : List Mk) (n s : Int) (o : Int) (ab : List Int) (at_ : Int) :
    ∀ (l : List Int) (u : Int) (e : Env) (t : Sto) (g : Grow), (∀ x ∈ l, Sm x) → Sm u → l.length ≤ 1099511627777 → e 0 = SlM ms → e 1 = I n → e 2 = I s → e 8 = .ptr 0 0 → e 9 = I at_ → e 10 = .slice (l.map I) g → t.own = false → t.get 0 = some (.cells [I o, I u, SlI ab]) → 1 ≤ t.next →
    T Try.prog lb (hd (tls 8 code10)) (fun x e t => x = .normal ∧ ∃ g, e 0 = SlM ms ∧ e 1 = I n ∧ e 2 = I s ∧ e 8 = .ptr 0 0 ∧ e 9 = I at_ ∧ e 10 = .slice ((low u l).2.map I) g ∧ t.own = false ∧ t.get 0 = some (.cells [I o, I (low u l).1, SlI ab]) ∧ 1 ≤ t.next) e t := by
  intro l u e t g hl hu hlen g0 g1 g2 g8 g9 g10 gown gt gn
  refine T_W ?_
  simp only [hd, tls, tl, code10, Try.f10]
  simp
  refine TL_loop (fun k e t => ∃ (l' : List Int) (u' : Int) (g : Grow), low u' l' = low u l ∧ (∀ x ∈ l', Sm x) ∧ Sm u' ∧ l'.length ≤ 1099511627777 ∧ k = l'.length ∧ e 0 = SlM ms ∧ e 1 = I n ∧ e 2 = I s ∧ e 8 = .ptr 0 0 ∧ e 9 = I at_ ∧ e 10 = .slice (l'.map I) g ∧ t.own = false ∧ t.get 0 = some (.cells [I o, I u', SlI ab]) ∧ 1 ≤ t.next) ?_ l.length _ _ ⟨l, u, g, by simp [g0, g1, g2, g8, g9, g10, gown, gt, gn, hlen]; exact ⟨hl, hu⟩⟩
  clear g0 g1 g2 g8 g9 g10 gown gt gn
  rintro k e t ⟨l', u', g, hlow, hl', hu', hlen', rfl, g0, g1, g2, g8, g9, g10, gown, gt, gn⟩
  cases l' with
  | nil =>
    simp [g0, g1, g2, g8, g9, g10, gown, gt, gn]
    simp [low] at hlow
    simp [← hlow]
  | cons x l' =>
    have hx : Sm x := hl' x (by simp)
    have w2 : IntKind.i64.wrap (u' + 1) = u' + 1 := by unfold Sm at hu'; exact wrap_id (by omega) (by omega)
    have w5 : (1 : Int) ≤ (l'.length : Int) + 1 := by omega
    have w6 : (0 : Int) < (l'.length : Int) + 1 := by omega
    by_cases hc : x = u' + 1
    · simp [g0, g1, g2, g8, g9, g10, gown, gt, gn, w2, w5, w6, hc]
      refine ⟨l'.length, by omega, l', u' + 1, by rw [← hlow, low_step (by omega)], fun y hy => hl' y (by simp [hy]), by unfold Sm at *; omega, by simp at hlen'; omega, rfl, List.take_of_length_le (by simp), rfl⟩
    · have hlow' : (u', x :: l') = low u l := by rw [← hlow, low_stop (by omega)]
      simp [g0, g1, g2, g8, g9, g10, gown, gt, gn, w2, w5, w6, hc]
      simp [← hlow']
theorem appP {t : Sto} {g g' : Grow} {acc : List PV} (x : PV) (hA : App t 1 g (acc.length * 3)) (hok : elemsOk 3 acc = true) (h2 : x.cells.length = 3) (h3 : x.cells.all PV.solid = true) (h4 : (acc.length + 1) * 40 ≤ 140737488355328) :
    evAppend Try.prog t #[22, 22] (.slice acc g) (.slice [x] g') = some (.slice (acc ++ [x]) (.tok t.next), (dropG t g).push (.grow ((acc.length + 1) * 3))) := app1 Try.apd22 hA x g' hok h2 h3 h4
abbrev mcg (gg : Grow) (m : Mk) : List PV := [I m.o, I m.u, .slice (m.ab.map I) gg]
theorem norm_agg (gg : Grow) (m : Mk) : PV.norm (.agg (mcg gg m)) = enc m := by simp
theorem normL_snoc (acc : List PV) (x : PV) : normL (acc ++ [x]) = normL acc ++ [x.norm] := by rw [normL_append]; rfl
theorem normL_length (acc : List PV) : (normL acc).length = acc.length := by rw [normL_eq_map, List.length_map]
theorem ok_snoc {acc : List PV} {x : PV} (h : elemsOk 3 acc = true) (hx : x.cells.length = 3) : elemsOk 3 (acc ++ [x]) = true := by simp [h, hx]
/-- An elder mark's place. -/
theorem n10c (ms : List Mk) (n : Int) (m : Mk) (gg : Grow) (hms : W64 ms.length) (k : Nat) (hk : k < ms.length) (e : Env) (t : Sto)
    (g0 : e 0 = SlM ms) (g1 : e 1 = I n) (g8 : e 8 = .ptr 0 0) (g9 : e 9 = I (k : Nat)) (g13 : e 13 = .slice [] .full) (g14 : e 14 = B false) (gown : t.own = false) (gn : 1 ≤ t.next) (gt : t.get 0 = some (.cells (mcg gg m))) :
    W Try.prog lb (hd (tls 12 code10)) (fun x e t => x = .normal ∧ Kp (fun e t => ∃ (g : Grow) (acc : List PV), normL acc = (ms.set k m).map enc ∧ elemsOk 3 acc = true ∧ acc.length = ms.length ∧ e 8 = .ptr 0 0 ∧ e 9 = I (k : Nat) ∧ e 13 = .slice acc g ∧ t.own = false ∧ t.get 0 = some (.cells (mcg gg m)) ∧ App t 1 g (ms.length * 3)) ⟨⟩ e t) e t := by
  unfold W64 at hms
  simp only [hd, tls, tl, code10, Try.f10]
  simp
  refine TL_inv (fun q e t => ∃ (i : Nat) (g : Grow) (acc : List PV), normL acc = ((ms.set k m).take i).map enc ∧ elemsOk 3 acc = true ∧ i ≤ ms.length ∧ q = ms.length - i ∧ e 0 = SlM ms ∧ e 1 = I n ∧ e 8 = .ptr 0 0 ∧ e 9 = I (k : Nat) ∧ e 13 = .slice acc g ∧ e 14 = B false ∧ e 15 = I i ∧ t.own = false ∧ t.get 0 = some (.cells (mcg gg m)) ∧ App t 1 g (acc.length * 3)) ms.length ⟨0, .full, [], by simp [normL, g0, g1, g8, g9, g13, g14, gown, gt, App.full gn]⟩ ?_
  clear g0 g1 g8 g9 g13 g14 gown gn gt
  rintro q e t ⟨i, g, acc, hacc, hok, hi, rfl, g0, g1, g8, g9, g13, g14, g15, gown, gt, hA⟩
  have hn0 : ¬ (0 = t.next) := by have := hA.1; omega
  by_cases hlt : i < ms.length
  case neg =>
    have e1 : i = ms.length := by omega
    subst e1
    have e2 : (ms.set k m).take ms.length = ms.set k m := by rw [List.take_of_length_le (by simp)]
    rw [e2] at hacc
    have e3 : acc.length = ms.length := by rw [← normL_length, hacc]; simp
    rw [e3] at hA
    simp [g0, g1, g8, g9, g13, g14, g15, gown, gt, hn0]
    exact Kp.mk ⟨g, acc, hacc, hok, e3, by simp [g8], by simp [g9], by simp [g13], by simp [gown], by simp [gt], hA⟩
  have w3 : IntKind.i64.wrap ((i : Int) + 1) = ((i + 1 : Nat) : Int) := wrapN (by omega)
  have hlt2 : i < (ms.set k m).length := by simpa using hlt
  have hln : acc.length = i := by rw [← normL_length, hacc]; simp; omega
  have hstep := List.take_succ_eq_append_getElem hlt2
  have hle : (acc.length + 1) * 40 ≤ 140737488355328 := by omega
  have hAn := App.push (g := g) hA.1 ((acc.length + 1) * 3)
  by_cases hik : i = k
  · have hap := appP (g' := .full) (.agg (mcg gg m)) hA hok rfl (by simp) hle
    have e4 : (ms.set k m)[i] = m := by subst hik; simp
    simp [-Try.ap22, g0, g1, g8, g9, g13, g14, g15, gown, gt, hn0, hlt, ← hik, w3, hap, hA.get (show 0 < 1 by omega)]
    refine ⟨ms.length - (i + 1), by omega, Kn.mk ?_⟩
    exact ⟨i + 1, .tok t.next, acc ++ [PV.agg (mcg gg m)], by rw [normL_snoc, hacc, norm_agg, hstep, e4]; simp, ok_snoc hok rfl, by omega, rfl, by simp [g0], by simp [g1], by simp [g8], by simp [g9, hik], by simp, by simp [g14], by simp, by simp [gown], by simp [hn0, hA.get (show 0 < 1 by omega), gt], by simpa using hAn⟩
  · have hap := appP (g' := .full) (enc ms[i]) hA hok rfl (by simp) hle
    have e4 : (ms.set k m)[i] = ms[i] := List.getElem_set_ne (by omega) _
    have hik' : ¬ (i : Int) = (k : Int) := by omega
    have hk0 : ¬ (k : Int) < 0 := by omega
    simp [-Try.ap22, g0, g1, g8, g9, g13, g14, g15, gown, gt, hn0, hlt, hik, hik', hk0, w3, hap, hA.get (show 0 < 1 by omega)]
    refine ⟨ms.length - (i + 1), by omega, Kn.mk ?_⟩
    exact ⟨i + 1, .tok t.next, acc ++ [enc ms[i]], by rw [normL_snoc, hacc, hstep, e4]; simp, ok_snoc hok rfl, by omega, rfl, by simp [g0], by simp [g1], by simp [g8], by simp [g9], by simp, by simp [g14], by simp, by simp [gown], by simp [hn0, hA.get (show 0 < 1 by omega), gt], by simpa using hAn⟩
theorem le40 {a i l : Nat} (h1 : a ≤ i + 1) (h2 : i < l) (h3 : l ≤ 1099511627776) : (a + 1 + 1) * 40 ≤ 140737488355328 := by omega
/-- A new mark's place. -/
theorem n10d (ms : List Mk) (n : Int) (m : Mk) (gg : Grow) (hms : W64 ms.length) (e : Env) (t : Sto)
    (g0 : e 0 = SlM ms) (g1 : e 1 = I n) (g8 : e 8 = .ptr 0 0) (g9 : e 9 = I (-1)) (g13 : e 13 = .slice [] .full) (g14 : e 14 = B false) (gown : t.own = false) (gn : 1 ≤ t.next) (gt : t.get 0 = some (.cells (mcg gg m))) :
    W Try.prog lb (hd (tls 12 code10)) (fun x e t => x = .normal ∧ Kp (fun e t => ∃ (g : Grow) (acc : List PV), normL acc = (accA ms (ms.findIdx (fun x => decide (n < x.o))) m ms.length).map enc ∧ elemsOk 3 acc = true ∧ e 8 = .ptr 0 0 ∧ e 9 = I (-1) ∧ e 13 = .slice acc g ∧ e 14 = B (decide (ms.findIdx (fun x => decide (n < x.o)) < ms.length)) ∧ t.own = false ∧ t.get 0 = some (.cells (mcg gg m)) ∧ App t 1 g (acc.length * 3)) ⟨⟩ e t) e t := by
  unfold W64 at hms
  simp only [hd, tls, tl, code10, Try.f10]
  simp
  have hjl : ms.findIdx (fun x => decide (n < x.o)) ≤ ms.length := List.findIdx_le_length
  refine TL_inv (fun q e t => ∃ (i : Nat) (g : Grow) (acc : List PV), normL acc = (accA ms (ms.findIdx (fun x => decide (n < x.o))) m i).map enc ∧ elemsOk 3 acc = true ∧ i ≤ ms.length ∧ q = ms.length - i ∧ e 0 = SlM ms ∧ e 1 = I n ∧ e 8 = .ptr 0 0 ∧ e 9 = I (-1) ∧ e 13 = .slice acc g ∧ e 14 = B (decide (ms.findIdx (fun x => decide (n < x.o)) < i)) ∧ e 15 = I i ∧ t.own = false ∧ t.get 0 = some (.cells (mcg gg m)) ∧ App t 1 g (acc.length * 3)) ms.length ⟨0, .full, [], by simp [normL, g0, g1, g8, g9, g13, g14, gown, gt, App.full gn, accA_zero]⟩ ?_
  clear g0 g1 g8 g9 g13 g14 gown gn gt
  rintro q e t ⟨i, g, acc, hacc, hok, hi, rfl, g0, g1, g8, g9, g13, g14, g15, gown, gt, hA⟩
  have hn0 : ¬ (0 = t.next) := by have := hA.1; omega
  by_cases hlt : i < ms.length
  case neg =>
    have e1 : i = ms.length := by omega
    subst e1
    simp [g0, g1, g8, g9, g13, g14, g15, gown, gt, hn0]
    exact Kp.mk ⟨g, acc, hacc, hok, by simp [g8], by simp [g9], by simp [g13], by simp [g14], by simp [gown], by simp [gt], hA⟩
  have w3 : IntKind.i64.wrap ((i : Int) + 1) = ((i + 1 : Nat) : Int) := wrapN (by omega)
  have hln : acc.length ≤ i + 1 := by rw [← normL_length, hacc, List.length_map, accA_len hi]; split <;> omega
  have hle : (acc.length + 1) * 40 ≤ 140737488355328 := by omega
  have hle2 : ((acc ++ [PV.agg (mcg gg m)]).length + 1) * 40 ≤ 140737488355328 := by
    have e5 : (acc ++ [PV.agg (mcg gg m)]).length = acc.length + 1 := by simp
    rw [e5]
    exact le40 hln hlt hms
  have hAn := App.push (g := g) hA.1 ((acc.length + 1) * 3)
  have hik' : ¬ (i : Int) = -1 := by omega
  rcases Nat.lt_trichotomy i (ms.findIdx (fun x => decide (n < x.o))) with hij | hij | hij
  · have hap := appP (g' := .full) (enc ms[i]) hA hok rfl (by simp) hle
    have hp : ¬ n < ms[i].o := by
      have := List.not_of_lt_findIdx hij
      simpa using this
    have q1 : ¬ (ms.findIdx (fun x => decide (n < x.o)) < i) := by omega
    have q2 : ¬ (ms.findIdx (fun x => decide (n < x.o)) < i + 1) := by omega
    simp [-Try.ap22, g0, g1, g8, g9, g13, g14, g15, gown, gt, hn0, hlt, hik', hp, q1, w3, hap, hA.get (show 0 < 1 by omega)]
    refine ⟨ms.length - (i + 1), by omega, Kn.mk ?_⟩
    exact ⟨i + 1, .tok t.next, acc ++ [enc ms[i]], by rw [normL_snoc, hacc, accA_before hij hlt]; simp, ok_snoc hok rfl, by omega, rfl, by simp [g0], by simp [g1], by simp [g8], by simp [g9], by simp, by simp [g14, q1, q2], by simp, by simp [gown], by simp [hn0, hA.get (show 0 < 1 by omega), gt], by simpa using hAn⟩
  · have hp : n < ms[i].o := by
      have := List.findIdx_getElem (p := fun x => decide (n < x.o)) (xs := ms) (w := by omega)
      simp only [← hij] at this
      simpa using this
    have hap := appP (g' := .full) (.agg (mcg gg m)) hA hok rfl (by simp) hle
    have hAnm : App ((dropG t g).push (.grow ((acc.length + 1) * 3))) 1 (.tok t.next) ((acc ++ [PV.agg (mcg gg m)]).length * 3) := by rw [List.length_append]; exact hAn
    have hap2 := appP (g' := .full) (enc ms[i]) (t := (dropG t g).push (.grow ((acc.length + 1) * 3))) (g := .tok t.next) (acc := acc ++ [PV.agg (mcg gg m)]) hAnm (ok_snoc hok rfl) rfl (by simp) hle2
    simp only [push_next, dropG_next, List.length_append, List.length_cons, List.length_nil] at hap2
    have hAn2 := App.push (base := 1) (s := (dropG t g).push (.grow ((acc.length + 1) * 3))) (g := .tok t.next) (by simp) ((acc.length + 1 + 1) * 3)
    have q1 : ¬ (i < i) := by omega
    rw [← hij] at g14 hacc
    simp [-Try.ap22, g0, g1, g8, g9, g13, g14, g15, gown, gt, hn0, hlt, hik', hp, q1, w3, hap, hap2, hA.get (show 0 < 1 by omega)]
    refine ⟨ms.length - (i + 1), by omega, Kn.mk ?_⟩
    refine ⟨i + 1, .tok (t.next + 1), (acc ++ [PV.agg (mcg gg m)]) ++ [enc ms[i]], ?_, ok_snoc (ok_snoc hok rfl) rfl, by omega, rfl, by simp [g0], by simp [g1], by simp [g8], by simp [g9], ?_, ?_, by simp, by simp [gown], ?_, ?_⟩
    · rw [← hij, accA_at hlt, normL_snoc, normL_snoc, hacc, norm_agg]; simp
    · simp
    · rw [← hij]; simp
    · simp only [push_get, dropG_next, push_next]
      rw [(App.push (base := 1) hA.1 ((acc.length + 1) * 3)).get (show 0 < 1 by omega)]
      simp [hn0, hA.get (show 0 < 1 by omega), gt]
    · simpa using hAn2
  · have hap := appP (g' := .full) (enc ms[i]) hA hok rfl (by simp) hle
    have q2 : (ms.findIdx (fun x => decide (n < x.o)) < i + 1) := by omega
    simp [-Try.ap22, g0, g1, g8, g9, g13, g14, g15, gown, gt, hn0, hlt, hik', hij, w3, hap, hA.get (show 0 < 1 by omega)]
    refine ⟨ms.length - (i + 1), by omega, Kn.mk ?_⟩
    exact ⟨i + 1, .tok t.next, acc ++ [enc ms[i]], by rw [normL_snoc, hacc, accA_after hij hlt]; simp, ok_snoc hok rfl, by omega, rfl, by simp [g0], by simp [g1], by simp [g8], by simp [g9], by simp, by simp [g14, hij, q2], by simp, by simp [gown], by simp [hn0, hA.get (show 0 < 1 by omega), gt], by simpa using hAn⟩
end Go.Proofs.TryF
