import Derived.Test.YtccjfglhoghbpaaPvOp3
namespace Go.Pv
open Go Go.RowKit

section
variable {w0 : Base} {κ : Kr} {s : Sto} {w : World} {P : Program} {p : PV}

/-! ### Slicing -/
/-- A bound: not there, or a number from 0 to 'most'. -/
def bnd (dflt most : Nat) : Option PV → Option Nat
  | none => some dflt
  | some (.lit (.int _ n)) => if 0 ≤ n ∧ n ≤ (most : Int) then some n.toNat else none
  | _ => none
theorem bnd_some {d m b : Nat} {o : PV} (h : bnd d m (some o) = some b) : ∃ k n, o = .lit (.int k n) ∧ 0 ≤ n ∧ n ≤ (m : Int) ∧ b = n.toNat := by
  cases o with
  | lit v =>
    cases v with
    | int k n =>
      simp only [bnd] at h
      split at h
      · rename_i hc
        simp only [Option.some.injEq] at h
        exact ⟨k, n, rfl, hc.1, hc.2, h.symm⟩
      · simp at h
    | _ => simp [bnd] at h
  | _ => simp [bnd] at h
theorem run_sliceBound {k : IntKind} {n : Int} {m : Nat} (h0 : 0 ≤ n) (h1 : n ≤ (m : Int)) (c : BoundsCode) (w : World) : (Instr.sliceBound (.int k n) m c).run P w = .ok n.toNat w := by
  simp [Instr.sliceBound, asIntOf, h0, h1]

/-- The bounds of s[l:h:m], h and m up to what is known of the room. -/
def bounds3 (len most : Nat) (lo hi mx : Option PV) : Option (Nat × Nat × Option Nat) :=
  match mx with
  | some _ => match hi with
    | some _ => match bnd 0 most mx with
      | some m => match bnd 0 m hi with
        | some h => (bnd 0 h lo).map fun l => (l, h, some m)
        | none => none
      | none => none
    | none => none
  | none => match bnd len most hi with
    | some h => (bnd 0 h lo).map fun l => (l, h, none)
    | none => none

theorem reads_opt {a : Act} {e : Env} (hE : EnvR κ a e) (o : Option Operand) {k : IntKind} {n : Int} (h : (o.map (evO e)) = some (.lit (.int k n))) : o.map a.eval = some (.int k n) := by
  cases o with
  | none => simp at h
  | some x =>
    simp only [Option.map_some, Option.some.injEq] at h ⊢
    have := hE.eval x
    rw [h] at this
    exact lit_inv this

theorem bounds3_sound {a : Act} {e : Env} (hE : EnvR κ a e) {isSlice : Bool} {len cap most : Nat} (hlen : len ≤ most) (hcap : most ≤ cap) {lo hi mx : Option Operand} {l h : Nat} {m : Option Nat} (hb : bounds3 len most (lo.map (evO e)) (hi.map (evO e)) (mx.map (evO e)) = some (l, h, m)) (w : World) :
    (Instr.sliceBounds isSlice len cap (lo.map a.eval) (hi.map a.eval) (mx.map a.eval)).run P w = .ok (l, h, m.getD cap) w ∧ l ≤ h ∧ h ≤ most ∧ (∀ k, m = some k → h ≤ k ∧ k ≤ most) ∧ (m = none ↔ mx = none) ∧ (hi = none → h = len) := by
  have low : ∀ {h : Nat} {l : Nat}, bnd 0 h (lo.map (evO e)) = some l → (lo.map a.eval = none ∧ l = 0) ∨ ∃ k n, lo.map a.eval = some (.int k n) ∧ 0 ≤ n ∧ n ≤ (h : Int) ∧ l = n.toNat := by
    intro h l hl
    cases hlo : lo.map (evO e) with
    | none =>
      rw [hlo] at hl
      simp only [bnd, Option.some.injEq] at hl
      subst hl
      have : lo = none := by cases lo <;> simp_all
      subst this
      exact .inl ⟨rfl, rfl⟩
    | some o =>
      rw [hlo] at hl
      obtain ⟨k, n, rfl, h0, h1, rfl⟩ := bnd_some hl
      exact .inr ⟨k, n, reads_opt hE lo hlo, h0, h1, rfl⟩
  unfold bounds3 at hb
  cases hmx : mx.map (evO e) with
  | none =>
    rw [hmx] at hb
    simp only at hb
    have hmx0 : mx = none := by cases mx <;> simp_all
    subst hmx0
    split at hb
    · rename_i h' hh
      simp only [Option.map_eq_some_iff, Prod.mk.injEq] at hb
      obtain ⟨l', hl, rfl, rfl, rfl⟩ := hb
      cases hhi : hi.map (evO e) with
      | none =>
        rw [hhi] at hh
        simp only [bnd, Option.some.injEq] at hh
        subst hh
        have hhi0 : hi = none := by cases hi <;> simp_all
        subst hhi0
        rcases low hl with ⟨h1, rfl⟩ | ⟨k, n, h1, h2, h3, rfl⟩
        · exact ⟨by simp [Instr.sliceBounds, h1], Nat.zero_le _, hlen, by simp, by simp, fun _ => rfl⟩
        · exact ⟨by simp [Instr.sliceBounds, h1, run_sliceBound h2 h3], by omega, hlen, by simp, by simp, fun _ => rfl⟩
      | some o =>
        rw [hhi] at hh
        obtain ⟨k, n, rfl, h0, h1, rfl⟩ := bnd_some hh
        have hhe := reads_opt hE hi hhi
        have h1' : n ≤ (cap : Int) := by omega
        rcases low hl with ⟨g1, rfl⟩ | ⟨k', n', g1, g2, g3, rfl⟩
        · exact ⟨by simp [Instr.sliceBounds, g1, hhe, run_sliceBound h0 h1'], Nat.zero_le _, by omega, by simp, by simp, fun hn => by subst hn; simp at hhi⟩
        · exact ⟨by simp [Instr.sliceBounds, g1, hhe, run_sliceBound h0 h1', run_sliceBound g2 g3], by omega, by omega, by simp, by simp, fun hn => by subst hn; simp at hhi⟩
    · simp at hb
  | some om =>
    rw [hmx] at hb
    simp only at hb
    cases hhi : hi.map (evO e) with
    | none => rw [hhi] at hb; simp at hb
    | some oh =>
      rw [hhi] at hb
      simp only at hb
      split at hb
      · rename_i m' hm
        split at hb
        · rename_i h' hh
          simp only [Option.map_eq_some_iff, Prod.mk.injEq] at hb
          obtain ⟨l', hl, rfl, rfl, rfl⟩ := hb
          obtain ⟨km, nm, rfl, m0, m1, rfl⟩ := bnd_some hm
          obtain ⟨kh, nh, rfl, h0, h1, rfl⟩ := bnd_some hh
          have hme := reads_opt hE mx hmx
          have hhe := reads_opt hE hi hhi
          have m1' : nm ≤ (cap : Int) := by omega
          rcases low hl with ⟨g1, rfl⟩ | ⟨k', n', g1, g2, g3, rfl⟩
          · exact ⟨by simp [Instr.sliceBounds, g1, hhe, hme, run_sliceBound m0 m1', run_sliceBound h0 h1], Nat.zero_le _, by omega, fun k hk => by simp only [Option.some.injEq] at hk; omega, by cases mx <;> simp_all, fun hn => by subst hn; simp at hhi⟩
          · exact ⟨by simp [Instr.sliceBounds, g1, hhe, hme, run_sliceBound m0 m1', run_sliceBound h0 h1, run_sliceBound g2 g3], by omega, by omega, fun k hk => by simp only [Option.some.injEq] at hk; omega, by cases mx <;> simp_all, fun hn => by subst hn; simp at hhi⟩
        · simp at hb
      · simp at hb

def evSlice (P : Program) (t : TypeId) (a : PV) (lo hi mx : Option PV) : Option PV :=
  match P.underlying t, a with
  | some .string, .lit (.string b) => match mx, bounds3 b.size b.size lo hi none with
    | none, some (l, h, _) => some (.lit (.string (b.extract l h)))
    | _, _ => none
  | some (.slice el), .slice es g => match P.info? el, bounds3 es.length es.length lo hi mx with
    | some i, some (l, h, m) => if elemsOk i.size es = true then
        some (.slice ((es.take h).drop l) (match m, g with
          | some k, _ => if k = h then .full else .no
          | none, .full => if h = es.length then .full else .no
          | none, _ => .no))
      else none
    | _, _ => none
  | some (.array n el), .ptr id off => match P.info? el, bounds3 n n lo hi mx with
    | some i, some (l, h, none) => some (.oslice id (if n = l then off else off + l * i.size) (h - l) (some (n - l)) 0)
    | _, _ => none
  | _, _ => none

theorem sub_slice {A : Option Addr} {es : List PV} {sz : Nat} {ad : Addr} {u : Nat → Value} (hA : es ≠ [] → A = some ad) (hsz : ∀ e, e ∈ es → e.cells.length = sz)
    (hΦ : ∀ j, j < es.length * sz → κ.Φ (ad.add j) = some (u j)) (hr : ∀ (i : Nat) (e : PV) (j : Nat) (p : PV), es[i]? = some e → e.cells[j]? = some p → Reads κ (u (i * sz + j)) p)
    {l h m : Nat} (hlh : l ≤ h) (hh : h ≤ es.length) (hm : h ≤ m) {g : Grow} (hg : g = .no ∨ (g = .full ∧ m = h)) :
    Reads κ (.slice (if m = l then A else A.map (·.add (l * sz))) (h - l) (m - l)) (.slice ((es.take h).drop l) g) := by
  have hlen : ((es.take h).drop l).length = h - l := by simp; omega
  have hget : ∀ k, k < h - l → ((es.take h).drop l)[k]? = es[l + k]? := by
    intro k hk
    rw [List.getElem?_drop, List.getElem?_take, if_pos (by omega)]
  have := Reads.slice (κ := κ) (if m = l then A else A.map (·.add (l * sz))) ((es.take h).drop l) (m - l) sz g (ad.add (l * sz)) (fun j => u (l * sz + j)) (by omega) (fun hne => by
      have hlt : l < h := by
        rcases Nat.lt_or_ge l h with h1 | h1
        · exact h1
        · exact absurd (List.eq_nil_of_length_eq_zero (by omega)) hne
      rw [if_neg (by omega), hA (fun e => by rw [e] at hh; simp at hh; omega)]
      rfl) (by
      rcases hg with rfl | ⟨rfl, rfl⟩
      · trivial
      · simp [GrowOk, hlen]) (fun e he => hsz e (List.mem_of_mem_take (List.mem_of_mem_drop he))) (fun j hj => by
      rw [add_add]
      refine hΦ _ ?_
      rw [hlen] at hj
      have : l * sz + (h - l) * sz ≤ es.length * sz := by rw [← Nat.add_mul]; exact Nat.mul_le_mul_right _ (by omega)
      omega) (fun i e j p he hp => by
      have hi : i < h - l := by
        rw [← hlen]
        rcases Nat.lt_or_ge i ((es.take h).drop l).length with h1 | h1
        · exact h1
        · rw [List.getElem?_eq_none h1] at he; simp at he
      rw [hget i hi] at he
      have := hr (l + i) e j p he hp
      rw [Nat.add_mul, Nat.add_assoc] at this
      exact this)
  rw [hlen] at this
  exact this

theorem evSlice_sound {a : Act} {e : Env} (hE : EnvR κ a e) {t : TypeId} {v : Value} {q : PV} (hv : Reads κ v q) {lo hi mx : Option Operand} (he : evSlice P t q (lo.map (evO e)) (hi.map (evO e)) (mx.map (evO e)) = some p) (w : World) :
    ∃ u, (Instr.sliceAt t v (lo.map a.eval) (hi.map a.eval) (mx.map a.eval)).run P w = .ok u w ∧ Reads κ u p := by
  unfold evSlice at he
  split at he
  · rename_i b hd
    obtain rfl := lit_inv hv
    split at he
    · rename_i l h m hmx hb
      simp only [Option.some.injEq] at he
      subst he
      have hmx0 : mx = none := by cases mx <;> simp_all
      subst hmx0
      obtain ⟨h1, _⟩ := bounds3_sound (P := P) hE (isSlice := false) (Nat.le_refl b.size) (Nat.le_refl b.size) (mx := none) hb w
      refine ⟨_, ?_, .lit _⟩
      simp only [Option.map_none] at h1
      simp [Instr.sliceAt, run_underlying hd, Instr.slice, h1]
    · simp at he
  · rename_i el es g hd
    obtain ⟨A, cap, sz, ad, u, rfl, hn, hA, hg, hsz, hΦ, hr⟩ := slice_inv hv
    split at he
    · rename_i i l h m hi hb
      split at he
      · rename_i hok
        simp only [Option.some.injEq] at he
        subst he
        obtain ⟨h1, h2, h3, h4, h5, h6⟩ := bounds3_sound (P := P) hE (isSlice := true) (Nat.le_refl es.length) hn hb w
        have hesm := elemsOk_mem hok
        have hss : es ≠ [] → sz = i.size := fun hne => by
          cases es with
          | nil => simp at hne
          | cons e es => rw [← hsz e (by simp), hesm e (by simp)]
        have hm : h ≤ m.getD cap := by
          cases m with
          | none => simp; omega
          | some k => exact (h4 k rfl).1
        refine ⟨_, ?_, sub_slice (κ := κ) (A := A) (es := es) (sz := i.size) (ad := ad) (u := u) (l := l) (h := h) (m := m.getD cap) hA hesm (fun j hj => ?_) (fun k e j p hk hj => ?_) h2 h3 hm ?_⟩
        · simp [Instr.sliceAt, run_underlying hd, Instr.slice, h1, run_sizeOf hi]
        · cases es with
          | nil => simp at hj
          | cons e es => rw [← hss (by simp)] at hj; exact hΦ j hj
        · cases es with
          | nil => simp at hk
          | cons e' es => rw [← hss (by simp)]; exact hr k e j p hk hj
        · cases m with
          | some k =>
            simp only [Option.getD_some]
            split
            · rename_i e1; exact .inr ⟨rfl, e1⟩
            · exact .inl rfl
          | none =>
            cases g with
            | full =>
              simp only [Option.getD_none]
              split
              · rename_i e1
                have : cap = es.length := hg
                exact .inr ⟨rfl, by omega⟩
              · exact .inl rfl
            | _ => exact .inl rfl
      · simp at he
    · simp at he
  · rename_i n el id off hd
    obtain ⟨f, hf, rfl⟩ := ptr_inv hv
    split at he
    · rename_i i l h hi hb
      simp only [Option.some.injEq] at he
      subst he
      obtain ⟨h1, h2, h3, h4, h5, h6⟩ := bounds3_sound (P := P) hE (isSlice := false) (Nat.le_refl n) (Nat.le_refl n) hb w
      refine ⟨.slice (some (if n = l then (⟨f.blk, off, none⟩ : Addr) else (⟨f.blk, off, none⟩ : Addr).add (l * i.size))) (h - l) (n - l), ?_, ?_⟩
      · simp [Instr.sliceAt, run_underlying hd, Instr.sureAddr, h1, run_sizeOf hi]
      · have : (if n = l then (⟨f.blk, off, none⟩ : Addr) else (⟨f.blk, off, none⟩ : Addr).add (l * i.size)) = ⟨f.blk, if n = l then off else off + l * i.size, none⟩ := by
          split
          · rfl
          · rw [add_mk]
        rw [this]
        exact .oslice id _ _ _ _ 0 f hf (by omega) (fun k hk => by simp only [Option.some.injEq] at hk; exact hk) (.inl rfl)
    · simp at he
  · simp at he

/-! ### Conversions -/
def bytesOf : List PV → Option (List Int)
  | [] => some []
  | .lit (.int .u8 n) :: ps => (bytesOf ps).map (n :: ·)
  | _ :: _ => none
theorem bytesOf_get : ∀ (ps : List PV) (xs : List Int), bytesOf ps = some xs → xs.length = ps.length ∧ ∀ j, j < xs.length → ps[j]? = some (.lit (.int .u8 (xs.getD j 0)))
  | [], xs, h => by simp only [bytesOf, Option.some.injEq] at h; subst h; exact ⟨rfl, fun j hj => by simp at hj⟩
  | q :: ps, xs, h => by
    unfold bytesOf at h
    split at h
    · simp_all
    · rename_i n ps' heq
      simp only [List.cons.injEq] at heq
      obtain ⟨rfl, rfl⟩ := heq
      simp only [Option.map_eq_some_iff] at h
      obtain ⟨ys, hy, rfl⟩ := h
      obtain ⟨h1, h2⟩ := bytesOf_get ps ys hy
      refine ⟨by simp [h1], fun j hj => ?_⟩
      cases j with
      | zero => simp
      | succ j => simpa using h2 j (by simpa using hj)
    · simp at h
def evConv (P : Program) (s : Sto) (src dst : TypeId) (a : PV) : Option PV :=
  match a with
  | .lit v => (pureRun P (Go.convert src dst v)).map ofValue
  | .oslice id off n _ _ => match P.underlying src, P.underlying dst, s.get id with
    | some (.slice el), some .string, some (.cells cs) => match P.underlying el with
      | some (.int .u8) => if off + n ≤ cs.length then (bytesOf ((cs.drop off).take n)).map fun xs => .lit (.string (strOfNums xs)) else none
      | _ => none
    | _, _, _ => none
  | _ => none
theorem evConv_sound (h : Rep w0 κ s w) {v : Value} {q : PV} (hv : Reads κ v q) {src dst : TypeId} (he : evConv P s src dst q = some p) : ∃ u, (Go.convert src dst v).run P w = .ok u w ∧ Reads κ u p := by
  unfold evConv at he
  split at he
  · rename_i v'
    obtain rfl := lit_inv hv
    simp only [Option.map_eq_some_iff] at he
    obtain ⟨u, h1, rfl⟩ := he
    exact ⟨u, pureRun_run h1 w, reads_ofValue κ u⟩
  · rename_i id off n c z
    obtain ⟨f, cap, hf, rfl, hn, _⟩ := oslice_inv hv
    split at he
    · rename_i el cs hs hd hb
      split at he
      · rename_i hel
        split at he
        · rename_i hle
          simp only [Option.map_eq_some_iff] at he
          obtain ⟨xs, hx, rfl⟩ := he
          obtain ⟨h1, h2⟩ := bytesOf_get _ _ hx
          obtain ⟨u, h3, h4⟩ := box_cell (h.see hb hf).2 off
          have hlen : xs.length = n := by rw [h1]; simp; omega
          refine ⟨_, run_convert_bytes_arg w src el hs hel f.blk off n cap xs hlen (fun j hj => ?_) dst hd, .lit _⟩
          have h5 := h2 j (by omega)
          rw [List.getElem?_take, if_pos hj, List.getElem?_drop] at h5
          have h6 := lit_inv (h4 j _ h5)
          have h7 := h3 j (by omega)
          rw [add_mk] at h7
          rw [h7, h6]
        · simp at he
      · simp at he
    · simp at he
  · simp at he

/-! ### Builtins -/
def litsOf : List PV → Option (List Value)
  | [] => some []
  | p :: ps => match litOf p, litsOf ps with
    | some v, some vs => some (v :: vs)
    | _, _ => none
theorem litsOf_eq {a : Act} {e : Env} (hE : EnvR κ a e) : ∀ (l : List Operand) (vs : List Value), litsOf (l.map (evO e)) = some vs → l.map a.eval = vs
  | [], vs, h => by simpa [litsOf] using h
  | x :: l, vs, h => by
    simp only [List.map_cons, litsOf] at h
    split at h
    · rename_i v vs' h1 h2
      simp only [Option.some.injEq] at h
      subst h
      rw [List.map_cons, litOf_eq (hE.eval x) h1, litsOf_eq hE l vs' h2]
    · simp at h

def constsOf (args : Array Operand) : Array Bool := args.map fun | .const _ => true | _ => false
def evBuiltin (P : Program) (e : Env) (s : Sto) (ty : TypeId) (b : Builtin) (argTypes : Array TypeId) (args : Array Operand) : Option (PV × Sto) :=
  match b, args.toList with
  | .append, [x, y] => evAppend P s argTypes (evO e x) (evO e y)
  | .len, [x] => match evO e x with
    | .slice es _ => match argTypes[0]? with
      | some t => match P.underlying t with
        | some (.slice _) => some (.lit (.int .i64 es.length), s)
        | _ => none
      | none => none
    | .oslice _ _ n _ _ => match argTypes[0]? with
      | some t => match P.underlying t with
        | some (.slice _) => some (.lit (.int .i64 n), s)
        | _ => none
      | none => none
    | .lit v => match pureRun P (Builtin.len_ argTypes ty #[v]) with
      | some r => some (ofValue r, s)
      | none => none
    | _ => none
  | .min, l => match litsOf (l.map (evO e)) with
    | some vs => (pureRun P (Builtin.min_ argTypes ty vs.toArray)).map fun r => (ofValue r, s)
    | none => none
  | .max, l => match litsOf (l.map (evO e)) with
    | some vs => (pureRun P (Builtin.max_ argTypes ty vs.toArray)).map fun r => (ofValue r, s)
    | none => none
  | .real, l => match litsOf (l.map (evO e)) with
    | some vs => (pureRun P (Builtin.real_ argTypes ty vs.toArray)).map fun r => (ofValue r, s)
    | none => none
  | .imag, l => match litsOf (l.map (evO e)) with
    | some vs => (pureRun P (Builtin.imag_ argTypes ty vs.toArray)).map fun r => (ofValue r, s)
    | none => none
  | .complex, l => match litsOf (l.map (evO e)) with
    | some vs => (pureRun P (Builtin.complex_ argTypes ty vs.toArray)).map fun r => (ofValue r, s)
    | none => none
  | _, _ => none

theorem evBuiltin_sound (h : Rep w0 κ s w) {a : Act} {e : Env} (hE : EnvR κ a e) {ty : TypeId} {b : Builtin} {argTypes : Array TypeId} {args : Array Operand} {s' : Sto} (he : evBuiltin P e s ty b argTypes args = some (p, s')) (consts : Array Bool) :
    Does w0 κ P (Go.builtin b argTypes ty consts (args.map a.eval)) w p s' := by
  have hargs : args.map a.eval = (args.toList.map a.eval).toArray := Array.ext' (by simp)
  unfold evBuiltin at he
  split at he
  · rename_i x y hl
    obtain ⟨v, w', κ', h1, h2, h3, h4⟩ := evAppend_sound (ty := ty) h (hE.eval x) (hE.eval y) he
    refine ⟨v, w', κ', h1, h3, h4, .inl ?_⟩
    rw [hargs, hl]
    simp [Go.builtin, h2]
  · rename_i x hl
    have hx := hE.eval x
    split at he
    · rename_i es g hp
      rw [hp] at hx
      obtain ⟨A, cap, sz, ad, u, hv, _⟩ := slice_inv hx
      split at he
      · rename_i t ht
        split at he
        · rename_i el hd
          simp only [Option.some.injEq, Prod.mk.injEq] at he
          obtain ⟨rfl, rfl⟩ := he
          refine Does.here h (.lit _) ?_
          rw [hargs, hl]
          simp [Go.builtin, Builtin.len_, ht, hv, run_underlying hd, goInt]
        · simp at he
      · simp at he
    · rename_i id off n c z hp
      rw [hp] at hx
      obtain ⟨f, cap, _, hv, _⟩ := oslice_inv hx
      split at he
      · rename_i t ht
        split at he
        · rename_i el hd
          simp only [Option.some.injEq, Prod.mk.injEq] at he
          obtain ⟨rfl, rfl⟩ := he
          refine Does.here h (.lit _) ?_
          rw [hargs, hl]
          simp [Go.builtin, Builtin.len_, ht, hv, run_underlying hd, goInt]
        · simp at he
      · simp at he
    · rename_i v hp
      rw [hp] at hx
      have hv := lit_inv hx
      split at he
      · rename_i r hr
        simp only [Option.some.injEq, Prod.mk.injEq] at he
        obtain ⟨rfl, rfl⟩ := he
        refine Does.here h (reads_ofValue κ r) ?_
        rw [hargs, hl]
        simp [hv, Go.builtin, pureRun_run hr w]
      · simp at he
    · simp at he
  · split at he
    · rename_i vs hvs
      simp only [Option.map_eq_some_iff, Prod.mk.injEq] at he
      obtain ⟨r, hr, rfl, rfl⟩ := he
      have := pureRun_run hr w
      rw [← litsOf_eq hE _ vs hvs] at this
      refine Does.here h (reads_ofValue κ r) ?_
      rw [hargs]
      simp [Go.builtin, this]
    · simp at he
  · split at he
    · rename_i vs hvs
      simp only [Option.map_eq_some_iff, Prod.mk.injEq] at he
      obtain ⟨r, hr, rfl, rfl⟩ := he
      have := pureRun_run hr w
      rw [← litsOf_eq hE _ vs hvs] at this
      refine Does.here h (reads_ofValue κ r) ?_
      rw [hargs]
      simp [Go.builtin, this]
    · simp at he
  · split at he
    · rename_i vs hvs
      simp only [Option.map_eq_some_iff, Prod.mk.injEq] at he
      obtain ⟨r, hr, rfl, rfl⟩ := he
      have := pureRun_run hr w
      rw [← litsOf_eq hE _ vs hvs] at this
      refine Does.here h (reads_ofValue κ r) ?_
      rw [hargs]
      simp [Go.builtin, this]
    · simp at he
  · split at he
    · rename_i vs hvs
      simp only [Option.map_eq_some_iff, Prod.mk.injEq] at he
      obtain ⟨r, hr, rfl, rfl⟩ := he
      have := pureRun_run hr w
      rw [← litsOf_eq hE _ vs hvs] at this
      refine Does.here h (reads_ofValue κ r) ?_
      rw [hargs]
      simp [Go.builtin, this]
    · simp at he
  · split at he
    · rename_i vs hvs
      simp only [Option.map_eq_some_iff, Prod.mk.injEq] at he
      obtain ⟨r, hr, rfl, rfl⟩ := he
      have := pureRun_run hr w
      rw [← litsOf_eq hE _ vs hvs] at this
      refine Does.here h (reads_ofValue κ r) ?_
      rw [hargs]
      simp [Go.builtin, this]
    · simp at he
  · simp at he

end
end Go.Pv
