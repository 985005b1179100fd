import Derived.Test.YtccjfglhoghbpaaPvPrim
import Derived.Laws.BytesArg
namespace Go.Pv
open Go Go.RowKit

/-- What an operation comes to. -/
def Does (w0 : Base) (κ : Kr) (P : Program) (x : Sem Next) (w : World) (p : PV) (s' : Sto) : Prop :=
  ∃ v w' κ', κ.le κ' ∧ Reads κ' v p ∧ Rep w0 κ' s' w' ∧ (x.run P w = .ok (.value v) w' ∨ (x.run P w = .ok .skip w' ∧ v = undef))

section
variable {w0 : Base} {κ : Kr} {s : Sto} {w : World} {P : Program} {x : Sem Next} {p : PV}

theorem Does.here (h : Rep w0 κ s w) {v : Value} (hv : Reads κ v p) (hx : x.run P w = .ok (.value v) w) : Does w0 κ P x w p s :=
  ⟨v, w, κ, Kr.le_refl κ, hv, h, .inl hx⟩

/-! ### Boxes -/
def evBox (s : Sto) (p : PV) : Option (PV × Sto) := (cellsOf p).map fun cs => (.ptr s.next 0, s.push (.cells cs))
def evAlloc (P : Program) (s : Sto) (el : TypeId) : Option (PV × Sto) :=
  match P.info? el with
  | some i => match i.zero with
    | some z => evBox s (ofValue z)
    | none => none
  | none => none

theorem run_newVar (t : TypeId) (v : Value) (w : World) : (newVar t v).run P w = .ok ⟨w.heap.size, 0, none⟩ (w.alloc (.cells v.cells t)) := rfl

theorem box_sound (h : Rep w0 κ s w) {v : Value} {q : PV} (hv : Reads κ v q) {s' : Sto} (he : evBox s q = some (p, s')) (el : TypeId) :
    ∃ κ', κ.le κ' ∧ Reads κ' (.pointer (some ⟨w.heap.size, 0, none⟩)) p ∧ Rep w0 κ' s' (w.alloc (.cells v.cells el)) := by
  simp only [evBox, Option.map_eq_some_iff] at he
  obtain ⟨cs, hc, he⟩ := he
  simp only [Prod.mk.injEq] at he
  obtain ⟨rfl, rfl⟩ := he
  obtain ⟨hk, hr⟩ := h.alloc_cells v.cells el cs (cellsOf_reads hv hc).toP
  exact ⟨_, hk, .ptr s.next 0 ⟨w.heap.size, v.cells.size⟩ (by simp [Kr.own]), hr⟩

/-! ### Fields, elements -/
def evLoad (P : Program) (s : Sto) (t : TypeId) (a : PV) : Option PV :=
  match a with
  | .ptr id off => match s.get id with
    | some (.cells cs) => loadFrom P t cs off
    | _ => none
  | .rptr cs => loadFrom P t cs 0
  | _ => none
theorem evLoad_sound (h : Rep w0 κ s w) {v : Value} {q : PV} (hv : Reads κ v q) {t : TypeId} (he : evLoad P s t q = some p) : ∃ u, (Instr.loadAt t v).run P w = .ok u w ∧ Reads κ u p := by
  unfold evLoad at he
  split at he
  · rename_i id off
    obtain ⟨i, hi, rfl⟩ := ptr_inv hv
    split at he
    · rename_i cs hb
      obtain ⟨u, h1, h2⟩ := h.load_ptr hb hi he
      exact ⟨u, by simpa [Instr.loadAt, Instr.sureAddr] using h1, h2⟩
    · simp at he
  · rename_i cs
    obtain ⟨ad, u, rfl, hΦ, hr⟩ := rptr_inv hv
    obtain ⟨u, h1, h2⟩ := h.load_rptr hΦ hr he
    exact ⟨u, by simpa [Instr.loadAt, Instr.sureAddr] using h1, h2⟩
  · simp at he

def evStore (P : Program) (s : Sto) (t : TypeId) (a x : PV) : Option Sto :=
  match a, cellsOf x, P.info? t with
  | .ptr id off, some xs, some i => match s.get id with
    | some (.cells cs) => if xs.length = i.size ∧ xs.all PV.solid = true ∧ off + xs.length ≤ cs.length then some (s.set id (some (.cells (writeAt cs off xs)))) else none
    | _ => none
  | _, _, _ => none
theorem evStore_sound (h : Rep w0 κ s w) {v u : Value} {a q : PV} (hv : Reads κ v a) (hu : Reads κ u q) {t : TypeId} {s' : Sto} (he : evStore P s t a q = some s') : ∃ w', (Instr.storeAt t v u).run P w = .ok () w' ∧ Rep w0 κ s' w' := by
  unfold evStore at he
  split at he
  · rename_i id off xs i hc hi
    obtain ⟨j, hj, rfl⟩ := ptr_inv hv
    split at he
    · rename_i cs hb
      split at he
      · rename_i hcond
        obtain ⟨h2, h3, h4⟩ := hcond
        simp only [Option.some.injEq] at he
        subst he
        have hr := cellsOf_reads hu hc
        have hz : (⟨j.blk, off, none⟩ : Addr).add 0 = ⟨j.blk, off, none⟩ := by simp [Addr.add]
        obtain ⟨w', h5, h6⟩ := Rep.storeCells (P := P) j hj u.cells.toList xs cs off ⟨j.blk, off, none⟩ 0 s w h hb hz (by simpa using hr.1) (fun j v p hv hp => hr.2 j v p (by simpa using hv) hp) (by simpa using h3) h4
        refine ⟨w', ?_, h6⟩
        have hsz : u.cells.size = i.size := by rw [hr.1, h2]
        simp only [Instr.storeAt, Instr.sureAddr, storeVar, Sem.run_bind, Sem.run_pure, Result.andThen_ok, run_sizeOf hi, hsz]
        simpa using h5
      · simp at he
    · simp at he
  · simp at he

def moved (p : PV) (n : Nat) : Option PV :=
  match p with
  | .ptr id off => some (.ptr id (off + n))
  | .rptr cs => some (.rptr (cs.drop n))
  | _ => none
theorem moved_sound {v : Value} {q : PV} (hv : Reads κ v q) {n : Nat} (he : moved q n = some p) : ∃ ad, v = .pointer (some ad) ∧ Reads κ (.pointer (some (ad.add n))) p := by
  unfold moved at he
  split at he
  · simp only [Option.some.injEq] at he
    subst he
    obtain ⟨i, hi, rfl⟩ := ptr_inv hv
    exact ⟨_, rfl, by rw [add_mk]; exact .ptr _ _ i hi⟩
  · rename_i cs
    simp only [Option.some.injEq] at he
    subst he
    obtain ⟨ad, u, rfl, hΦ, hr⟩ := rptr_inv hv
    refine ⟨ad, rfl, .rptr _ _ (fun j => u (n + j)) (fun j hj => ?_) (fun j p hp => ?_)⟩
    · rw [add_add]
      simp only [List.length_drop] at hj
      exact hΦ _ (by omega)
    · rw [List.getElem?_drop] at hp
      exact hr _ _ hp
  · simp at he

def fieldOf (P : Program) (t : TypeId) (f : Nat) : Option (Field × TypeInfo) :=
  match P.underlying t with
  | some (.struct fs) => match fs[f]? with
    | some fd => match P.info? fd.type with
      | some i => some (fd, i)
      | none => none
    | none => none
  | _ => none
theorem fieldOf_eq {t : TypeId} {f : Nat} {fd : Field} {i : TypeInfo} (h : fieldOf P t f = some (fd, i)) : ∃ fs, P.underlying t = some (.struct fs) ∧ fs[f]? = some fd ∧ P.info? fd.type = some i := by
  unfold fieldOf at h
  split at h
  · rename_i fs hs
    split at h
    · rename_i fd' hf
      split at h
      · rename_i i' hi
        simp only [Option.some.injEq, Prod.mk.injEq] at h
        obtain ⟨rfl, rfl⟩ := h
        exact ⟨fs, hs, hf, hi⟩
      · simp at h
    · simp at h
  · simp at h
def evFieldAddr (P : Program) (t : TypeId) (a : PV) (f : Nat) : Option PV :=
  match fieldOf P t f with
  | some (fd, i) => if i.size = 0 then none else moved a fd.offset
  | none => none
theorem evFieldAddr_sound {v : Value} {q : PV} (hv : Reads κ v q) {t : TypeId} {f : Nat} (he : evFieldAddr P t q f = some p) (w : World) : ∃ u, (Instr.fieldAt t v f).run P w = .ok u w ∧ Reads κ u p := by
  unfold evFieldAddr at he
  split at he
  · rename_i fd i hf
    obtain ⟨fs, h1, h2, h3⟩ := fieldOf_eq hf
    split at he
    · simp at he
    · rename_i hz
      obtain ⟨ad, rfl, h4⟩ := moved_sound hv he
      refine ⟨_, ?_, h4⟩
      simp [Instr.fieldAt, run_underlying h1, h2, Instr.sureAddr, fieldPlace, run_sizeOf h3, hz]
  · simp at he

/-- A part of an aggregate. -/
theorem run_part {cs : List PV} {us : Array Value} (hr : ReadsA κ us cs) {t : TypeId} {off : Nat} (he : loadFrom P t cs off = some p) (w : World) : ∃ u, (part t us off).run P w = .ok u w ∧ Reads κ u p := by
  unfold loadFrom at he
  cases hd : P.underlying t with
  | none => simp [hd] at he
  | some d =>
    cases hi : P.info? t with
    | none => simp [hd, hi] at he
    | some i =>
      simp only [hd, hi] at he
      simp only [part, Sem.run_bind, run_isAgg hd, Result.andThen_ok]
      by_cases hg : isAggD d = true
      · rw [if_pos hg] at he ⊢
        split at he
        · rename_i hle
          simp only [Option.some.injEq] at he
          subst he
          refine ⟨.agg (us.extract off (off + i.size)), by simp [run_sizeOf hi], .agg _ _ ?_ (fun j v q hv hq => ?_)⟩
          · have := hr.1; simp; omega
          · rw [List.getElem?_take] at hq
            split at hq
            · rename_i hlt
              rw [List.getElem?_drop] at hq
              rw [Array.getElem?_extract] at hv
              split at hv
              · exact hr.2 _ _ _ hv hq
              · simp at hv
            · simp at hq
        · simp at he
      · simp only [Bool.not_eq_true] at hg
        rw [hg] at he ⊢
        simp only [Bool.false_eq_true, if_false] at he ⊢
        have hlt : off < us.size := by
          rw [hr.1]
          rcases Nat.lt_or_ge off cs.length with h1 | h1
          · exact h1
          · rw [List.getElem?_eq_none h1] at he; simp at he
        exact ⟨us[off], by simp [hlt], hr.2 off _ p (by simp [hlt]) he⟩
def evField (P : Program) (t : TypeId) (a : PV) (f : Nat) : Option PV :=
  match a, fieldOf P t f with
  | .agg cs, some (fd, _) => loadFrom P fd.type cs fd.offset
  | _, _ => none
theorem evField_sound {v : Value} {q : PV} (hv : Reads κ v q) {t : TypeId} {f : Nat} (he : evField P t q f = some p) (w : World) : ∃ u, (Instr.field t v f).run P w = .ok u w ∧ Reads κ u p := by
  unfold evField at he
  split at he
  · rename_i cs fd i hf
    obtain ⟨fs, h1, h2, h3⟩ := fieldOf_eq hf
    obtain ⟨us, rfl, hr⟩ := agg_inv hv
    obtain ⟨u, h4, h5⟩ := run_part hr he w
    exact ⟨u, by simp [Instr.field, run_underlying h1, h2, asAgg, h4], h5⟩
  · simp at he

def elemInfo (P : Program) (t : TypeId) : Option (Option Nat × TypeId × TypeInfo) :=
  match P.underlying t with
  | some (.slice el) => (P.info? el).map fun i => (none, el, i)
  | some (.array n el) => (P.info? el).map fun i => (some n, el, i)
  | _ => none
def evIndexAddr (P : Program) (t : TypeId) (a ix : PV) : Option PV :=
  match ix, elemInfo P t with
  | .lit (.int _ n), some (none, _, i) => match a with
    | .slice es _ => if 0 ≤ n then match es[n.toNat]? with
        | some e => if e.cells.length = i.size then some (.rptr e.cells) else none
        | none => none
      else none
    | .oslice id off len _ _ => if 0 ≤ n ∧ n.toNat < len then some (.ptr id (off + n.toNat * i.size)) else none
    | _ => none
  | .lit (.int _ n), some (some len, _, i) => if 0 ≤ n ∧ n.toNat < len then moved a (n.toNat * i.size) else none
  | _, _ => none
theorem evIndexAddr_sound {v u : Value} {q r : PV} (hv : Reads κ v q) (hu : Reads κ u r) {t : TypeId} (he : evIndexAddr P t q r = some p) (w : World) : ∃ y, (Instr.indexAt t v u).run P w = .ok y w ∧ Reads κ y p := by
  unfold evIndexAddr at he
  split at he
  · rename_i k n el i hel
    obtain rfl := lit_inv hu
    have hund : P.underlying t = some (.slice el) ∧ P.info? el = some i := by
      unfold elemInfo at hel
      split at hel
      · rename_i el' h1
        simp only [Option.map_eq_some_iff, Prod.mk.injEq] at hel
        obtain ⟨i', h2, _, rfl, rfl⟩ := hel
        exact ⟨h1, h2⟩
      · simp at hel
      · simp at hel
    split at he
    · rename_i es g
      obtain ⟨A, cap, sz, ad, f, rfl, hn, hA, hg, hsz, hΦ, hr⟩ := slice_inv hv
      split at he
      · rename_i h0
        split at he
        · rename_i e hes
          split at he
          · rename_i hlen
            simp only [Option.some.injEq] at he
            subst he
            have hlt : n.toNat < es.length := by
              rcases Nat.lt_or_ge n.toNat es.length with h1 | h1
              · exact h1
              · rw [List.getElem?_eq_none h1] at hes; simp at hes
            have hne : es ≠ [] := fun e => by rw [e] at hlt; simp at hlt
            have hs : sz = i.size := by rw [← hlen]; exact (hsz e (List.mem_of_getElem? hes)).symm
            subst hs
            have hA' := hA hne
            subst hA'
            refine ⟨.pointer (some (ad.add (n.toNat * i.size))), ?_, .rptr _ _ (fun j => f (n.toNat * i.size + j)) (fun j hj => ?_) (fun j p hp => hr _ e j p hes hp)⟩
            · have hlt' : 0 ≤ n ∧ n < (es.length : Int) := ⟨h0, by omega⟩
              simp [Instr.indexAt, asIntOf, run_underlying hund.1, hlt', run_sizeOf hund.2]
            · rw [add_add]
              refine hΦ _ ?_
              have : (n.toNat + 1) * i.size ≤ es.length * i.size := Nat.mul_le_mul_right _ hlt
              rw [Nat.add_mul] at this
              omega
          · simp at he
        · simp at he
      · simp at he
    · rename_i id off len c z
      obtain ⟨inf, cap, hi, rfl, hn, _⟩ := oslice_inv hv
      split at he
      · rename_i hc
        simp only [Option.some.injEq] at he
        subst he
        refine ⟨.pointer (some ((⟨inf.blk, off, none⟩ : Addr).add (n.toNat * i.size))), ?_, by rw [add_mk]; exact .ptr _ _ inf hi⟩
        have hlt' : 0 ≤ n ∧ n < (len : Int) := ⟨hc.1, by omega⟩
        simp [Instr.indexAt, asIntOf, run_underlying hund.1, hlt', run_sizeOf hund.2]
      · simp at he
    · simp at he
  · rename_i k n len el i hel
    obtain rfl := lit_inv hu
    have hund : P.underlying t = some (.array len el) ∧ P.info? el = some i := by
      unfold elemInfo at hel
      split at hel
      · simp at hel
      · rename_i n' el' h1
        simp only [Option.map_eq_some_iff, Prod.mk.injEq, Option.some.injEq] at hel
        obtain ⟨i', h2, rfl, rfl, rfl⟩ := hel
        exact ⟨h1, h2⟩
      · simp at hel
    split at he
    · rename_i hc
      obtain ⟨ad, rfl, h4⟩ := moved_sound hv he
      refine ⟨_, ?_, h4⟩
      have hlt' : 0 ≤ n ∧ n < (len : Int) := ⟨hc.1, by omega⟩
      simp [Instr.indexAt, asIntOf, run_underlying hund.1, hlt', run_sizeOf hund.2, Instr.sureAddr]
    · simp at he
  · simp at he

def evIndex (P : Program) (t : TypeId) (a ix : PV) : Option PV :=
  match ix, P.underlying t with
  | .lit (.int _ n), some (.array len el) => match a, P.info? el with
    | .agg cs, some i => if 0 ≤ n ∧ n.toNat < len then loadFrom P el cs (n.toNat * i.size) else none
    | _, _ => none
  | .lit (.int k n), some .string => match a with
    | .lit v => (pureRun P (Instr.index t v (.int k n))).map ofValue
    | _ => none
  | _, _ => none
theorem evIndex_sound {v u : Value} {q r : PV} (hv : Reads κ v q) (hu : Reads κ u r) {t : TypeId} (he : evIndex P t q r = some p) (w : World) : ∃ y, (Instr.index t v u).run P w = .ok y w ∧ Reads κ y p := by
  unfold evIndex at he
  split at he
  · rename_i k n len el hd
    obtain rfl := lit_inv hu
    split at he
    · rename_i cs i hi
      split at he
      · rename_i hc
        obtain ⟨us, rfl, hr⟩ := agg_inv hv
        obtain ⟨y, h4, h5⟩ := run_part hr he w
        refine ⟨y, ?_, h5⟩
        have hlt' : 0 ≤ n ∧ n < (len : Int) := ⟨hc.1, by omega⟩
        simp [Instr.index, asIntOf, run_underlying hd, hlt', run_sizeOf hi, h4]
      · simp at he
    · simp at he
  · rename_i k n hd
    obtain rfl := lit_inv hu
    split at he
    · rename_i v'
      obtain rfl := lit_inv hv
      simp only [Option.map_eq_some_iff] at he
      obtain ⟨y, h1, rfl⟩ := he
      exact ⟨y, pureRun_run h1 w, reads_ofValue κ y⟩
    · simp at he
  · simp at he

/-! ### Calculations -/
def evBin (P : Program) (op : BinOp) (t : TypeId) (x y : Operand) (a b : PV) : Option PV :=
  match litOf a, litOf b with
  | some u, some v => (pureRun P (do eqGuard op t x y u v; Go.binOp op t u v)).map ofValue
  | _, _ => none
theorem evBin_sound {op : BinOp} {t : TypeId} {x y : Operand} {u v : Value} {a b : PV} (hu : Reads κ u a) (hv : Reads κ v b) (he : evBin P op t x y a b = some p) (w : World) :
    ∃ r, (do eqGuard op t x y u v; Go.binOp op t u v : Sem Value).run P w = .ok r w ∧ Reads κ r p := by
  unfold evBin at he
  split at he
  · rename_i u' v' h1 h2
    obtain rfl := litOf_eq hu h1
    obtain rfl := litOf_eq hv h2
    simp only [Option.map_eq_some_iff] at he
    obtain ⟨r, h3, rfl⟩ := he
    exact ⟨r, pureRun_run h3 w, reads_ofValue κ r⟩
  · simp at he
def evUn (P : Program) (op : UnOp) (a : PV) : Option PV :=
  match litOf a with
  | some u => (pureRun P (Op.unary op u)).map ofValue
  | none => none
theorem evUn_sound {op : UnOp} {u : Value} {a : PV} (hu : Reads κ u a) (he : evUn P op a = some p) (w : World) : ∃ r, (Op.unary op u).run P w = .ok r w ∧ Reads κ r p := by
  unfold evUn at he
  split at he
  · rename_i u' h1
    obtain rfl := litOf_eq hu h1
    simp only [Option.map_eq_some_iff] at he
    obtain ⟨r, h3, rfl⟩ := he
    exact ⟨r, pureRun_run h3 w, reads_ofValue κ r⟩
  · simp at he

theorem run_equalIn_nil (d : Nat) {t el : TypeId} (hd : P.underlying t = some (.slice el)) (A : Option Addr) (n cap : Nat) (w : World) : (Op.equalIn (d + 1) t (.slice A n cap) (.slice none 0 0)).run P w = .ok A.isNone w := by
  cases A <;> simp [Op.equalIn, run_underlying hd]

/-- A slice against nil. -/
def evNil (P : Program) (t : TypeId) (y : Operand) (a : PV) : Option Bool :=
  match P.underlying t, y, a with
  | some (.slice _), .const (.slice none 0 0), .slice es g => match es, g with
    | _ :: _, _ => some false
    | [], .nil => some true
    | [], .ex => some false
    | [], _ => none
  | _, _, _ => none
theorem evNil_sound {t : TypeId} {x y : Operand} {v u : Value} {a : PV} {b : Bool} (hv : Reads κ v a) (hy : ∀ k, y = .const k → u = k) (he : evNil P t y a = some b) (w : World) :
    (do eqGuard .eql t x y v u; Go.binOp .eql t v u : Sem Value).run P w = .ok (.bool b) w ∧ (do eqGuard .neq t x y v u; Go.binOp .neq t v u : Sem Value).run P w = .ok (.bool !b) w := by
  unfold evNil at he
  split at he
  · rename_i el es g hd
    obtain rfl := hy _ rfl
    obtain ⟨A, cap, sz, ad, f, rfl, hn, hA, hg, _⟩ := slice_inv hv
    have key : A.isNone = b := by
      split at he
      · simp only [Option.some.injEq] at he
        subst he
        rw [hA (by simp)]; rfl
      · simp only [Option.some.injEq] at he
        subst he
        rw [show A = none from hg]; rfl
      · simp only [Option.some.injEq] at he
        subst he
        obtain ⟨ad', rfl⟩ := hg
        rfl
      · simp at he
    have heq : (Op.equal t (.slice A es.length cap) (.slice none 0 0)).run P w = .ok b w := by
      rw [← key]
      exact run_equalIn_nil 9999 hd A _ _ w
    constructor
    · simp [eqGuard, Go.binOp, heq]
    · simp [eqGuard, Go.binOp, heq]
  · simp at he

end
end Go.Pv
