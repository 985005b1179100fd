import Derived.Test.YtccjfglhoghbpaaPvTot
import Derived.Laws.BitsLemmas
import Derived.WideShapes
import Derived.Laws.Strings
namespace Go.Pv
universe u
open Go Go.RowKit

/-! ### Words for the symbolic run -/
section
variable {P : Program} {t yt : TypeId} {x y : Operand} {k : IntKind} {a b : Int} {u v : ByteArray} {c d : Bool}
theorem upd_apply (e : Env) (i : Nat) (p : PV) (j : Nat) : upd e i p j = if j = i then p else e j := (rfl)
theorem putE_some (e : Env) (i : Nat) (p : PV) : putE e (some i) p = upd e i p := (rfl)
theorem putE_none (e : Env) (p : PV) : putE e none p = e := (rfl)
theorem evO_tmp (e : Env) (i : Nat) : evO e (.tmp i) = e i := (rfl)
theorem evO_func (e : Env) (f : FuncId) : evO e (.func f) = .fn (.func f) [] [] := (rfl)
theorem evO_int (e : Env) (k : IntKind) (n : Int) : evO e (.const (.int k n)) = .lit (.int k n) := (rfl)
theorem evO_bool (e : Env) (b : Bool) : evO e (.const (.bool b)) = .lit (.bool b) := (rfl)
theorem evO_str (e : Env) (b : ByteArray) : evO e (.const (.string b)) = .lit (.string b) := (rfl)
theorem evO_nil (e : Env) : evO e (.const (.slice none 0 0)) = .slice [] .full := (rfl)
theorem evO_agg (e : Env) (us : Array Value) : evO e (.const (.agg us)) = .agg (us.toList.map ofCell) := (rfl)
theorem ofCell_int (k : IntKind) (n : Int) : ofCell (.int k n) = .lit (.int k n) := (rfl)
theorem ofCell_bool (b : Bool) : ofCell (.bool b) = .lit (.bool b) := (rfl)
theorem ofCell_str (b : ByteArray) : ofCell (.string b) = .lit (.string b) := (rfl)
theorem ofCell_nil : ofCell (.slice none 0 0) = .slice [] .full := (rfl)
theorem initEnv_apply (args : List PV) (t : Nat) : initEnv args t = args.getD t .any := (rfl)
theorem evBin_add : evBin P .add t x y (.lit (.int k a)) (.lit (.int k b)) = some (.lit (.int k (k.wrap (a + b)))) := by simp [evBin, litOf, Go.binOp, eqGuard, Op.intArith]; exact ⟨_, rfl, rfl⟩
theorem evBin_sub : evBin P .sub t x y (.lit (.int k a)) (.lit (.int k b)) = some (.lit (.int k (k.wrap (a - b)))) := by simp [evBin, litOf, Go.binOp, eqGuard, Op.intArith]; exact ⟨_, rfl, rfl⟩
theorem evBin_mul : evBin P .mul t x y (.lit (.int k a)) (.lit (.int k b)) = some (.lit (.int k (k.wrap (a * b)))) := by simp [evBin, litOf, Go.binOp, eqGuard, Op.intArith]; exact ⟨_, rfl, rfl⟩
theorem evBin_lss : evBin P .lss t x y (.lit (.int k a)) (.lit (.int k b)) = some (.lit (.bool (decide (a < b)))) := by simp [evBin, litOf, Go.binOp, eqGuard, Op.intCmp]; exact ⟨_, rfl, rfl⟩
theorem evBin_leq : evBin P .leq t x y (.lit (.int k a)) (.lit (.int k b)) = some (.lit (.bool (decide (a ≤ b)))) := by simp [evBin, litOf, Go.binOp, eqGuard, Op.intCmp]; exact ⟨_, rfl, rfl⟩
theorem evBin_gtr : evBin P .gtr t x y (.lit (.int k a)) (.lit (.int k b)) = some (.lit (.bool (decide (b < a)))) := by simp [evBin, litOf, Go.binOp, eqGuard, Op.intCmp]; exact ⟨_, rfl, rfl⟩
theorem evBin_geq : evBin P .geq t x y (.lit (.int k a)) (.lit (.int k b)) = some (.lit (.bool (decide (b ≤ a)))) := by simp [evBin, litOf, Go.binOp, eqGuard, Op.intCmp]; exact ⟨_, rfl, rfl⟩
theorem evBin_eql : evBin P .eql t x y (.lit (.int k a)) (.lit (.int k b)) = some (.lit (.bool (decide (a = b)))) := by simp [evBin, litOf, Go.binOp, eqGuard, Op.intCmp]; refine ⟨_, rfl, ?_⟩; simp [ofValue, ofCell]; exact Bool.beq_eq_decide_eq a b
theorem evBin_neq : evBin P .neq t x y (.lit (.int k a)) (.lit (.int k b)) = some (.lit (.bool (!decide (a = b)))) := by simp [evBin, litOf, Go.binOp, eqGuard, Op.intCmp]; refine ⟨_, rfl, ?_⟩; simp [ofValue, ofCell, bne]; exact Bool.beq_eq_decide_eq a b
theorem toList_eq_iff (u v : ByteArray) : (u.toList == v.toList) = decide (u = v) := by
  rw [Bool.eq_iff_iff]
  simp only [beq_iff_eq, decide_eq_true_eq]
  constructor
  · intro h
    have h1 : u.data.toList = v.data.toList := by rw [← ByteArray.toList_eq, ← ByteArray.toList_eq]; exact h
    exact ByteArray.ext (Array.ext' h1)
  · rintro rfl; rfl
theorem evBin_seql : evBin P .eql t x y (.lit (.string u)) (.lit (.string v)) = some (.lit (.bool (decide (u = v)))) := by rw [← toList_eq_iff]; simp [evBin, litOf, Go.binOp, eqGuard, Op.stringOp]; exact ⟨_, rfl, rfl⟩
theorem evBin_sneq : evBin P .neq t x y (.lit (.string u)) (.lit (.string v)) = some (.lit (.bool (!decide (u = v)))) := by rw [← toList_eq_iff]; simp [evBin, litOf, Go.binOp, eqGuard, Op.stringOp]; exact ⟨_, rfl, rfl⟩
theorem evUn_not : evUn P .not (.lit (.bool c)) = some (.lit (.bool !c)) := (rfl)

/-! Layouts: what is asked of the types, in numbers. -/
def lay (P : Program) (t : TypeId) : Option (Bool × Nat) :=
  match P.underlying t, P.info? t with
  | some d, some i => some (isAggD d, i.size)
  | _, _ => none
theorem loadFrom_eq (cs : List PV) (off : Nat) : loadFrom P t cs off = match lay P t with
    | some (true, n) => if off + n ≤ cs.length then some (.agg ((cs.drop off).take n)) else none
    | some (false, _) => cs[off]?
    | none => none := by
  unfold loadFrom lay
  cases P.underlying t <;> cases P.info? t <;> simp
  rename_i d i
  cases isAggD d <;> simp
theorem loadFrom_one {n : Nat} (h : lay P t = some (false, n)) (cs : List PV) (off : Nat) : loadFrom P t cs off = cs[off]? := by rw [loadFrom_eq, h]
theorem loadFrom_agg {n : Nat} (h : lay P t = some (true, n)) (cs : List PV) (off : Nat) (hle : off + n ≤ cs.length) : loadFrom P t cs off = some (.agg ((cs.drop off).take n)) := by rw [loadFrom_eq, h]; simp [hle]
theorem evLoad_rptr (s : Sto) (cs : List PV) : evLoad P s t (.rptr cs) = loadFrom P t cs 0 := (rfl)
theorem evLoad_ptr {s : Sto} {id : Nat} {cs : List PV} (h : s.get id = some (.cells cs)) (off : Nat) : evLoad P s t (.ptr id off) = loadFrom P t cs off := by simp [evLoad, h]
theorem evStore_ptr {s : Sto} {id off n : Nat} {g : Bool} {cs xs : List PV} {q : PV} (hl : lay P t = some (g, n)) (h : s.get id = some (.cells cs)) (hx : cellsOf q = some xs) (hn : xs.length = n) (hs : xs.all PV.solid = true) (ho : off + xs.length ≤ cs.length) : evStore P s t (.ptr id off) q = some (s.set id (some (.cells (writeAt cs off xs)))) := by
  unfold lay at hl
  cases hd : P.underlying t with
  | none => simp [hd] at hl
  | some d =>
    cases hi : P.info? t with
    | none => simp [hd, hi] at hl
    | some i =>
      simp only [hd, hi, Option.some.injEq, Prod.mk.injEq] at hl
      simp only [evStore, hx, hi, h]
      rw [if_pos ⟨by rw [hn, hl.2], hs, ho⟩]

def foff (P : Program) (t : TypeId) (f : Nat) : Option (Nat × Nat × TypeId) := (fieldOf P t f).map fun x => (x.1.offset, x.2.size, x.1.type)
theorem evFieldAddr_ptr {f o n : Nat} {ft : TypeId} (h : foff P t f = some (o, n + 1, ft)) (id off : Nat) : evFieldAddr P t (.ptr id off) f = some (.ptr id (off + o)) := by
  unfold foff at h
  rw [Option.map_eq_some_iff] at h
  obtain ⟨⟨fd, i⟩, h1, h2⟩ := h
  simp only [Prod.mk.injEq] at h2
  simp [evFieldAddr, h1, h2.1, h2.2.1, moved]
theorem evFieldAddr_rptr {f o n : Nat} {ft : TypeId} (h : foff P t f = some (o, n + 1, ft)) (cs : List PV) : evFieldAddr P t (.rptr cs) f = some (.rptr (cs.drop o)) := by
  unfold foff at h
  rw [Option.map_eq_some_iff] at h
  obtain ⟨⟨fd, i⟩, h1, h2⟩ := h
  simp only [Prod.mk.injEq] at h2
  simp [evFieldAddr, h1, h2.1, h2.2.1, moved]
theorem evField_agg {f o n : Nat} {ft : TypeId} (h : foff P t f = some (o, n, ft)) (cs : List PV) : evField P t (.agg cs) f = loadFrom P ft cs o := by
  unfold foff at h
  rw [Option.map_eq_some_iff] at h
  obtain ⟨⟨fd, i⟩, h1, h2⟩ := h
  simp only [Prod.mk.injEq] at h2
  simp [evField, h1, h2.1, h2.2.2]

def elay (P : Program) (t : TypeId) : Option (Option Nat × Nat) := (elemInfo P t).map fun x => (x.1, x.2.2.size)
theorem evIndexAddr_slice {n i : Nat} (h : elay P t = some (none, n)) {es : List PV} {q : PV} (g : Grow) (k : IntKind) (hq : es[i]? = some q) (hn : q.cells.length = n) : evIndexAddr P t (.slice es g) (.lit (.int k (i : Int))) = some (.rptr q.cells) := by
  unfold elay at h
  rw [Option.map_eq_some_iff] at h
  obtain ⟨⟨len, el, j⟩, h1, h2⟩ := h
  simp only [Prod.mk.injEq] at h2
  obtain ⟨rfl, h2⟩ := h2
  simp [evIndexAddr, h1, h2, hq, hn]
theorem evIndexAddr_map {α : Type} {n i : Nat} (h : elay P t = some (none, n)) {xs : List α} {f : α → PV} (g : Grow) (k : IntKind) (hi : i < xs.length) (hn : ∀ x, (f x).cells.length = n) : evIndexAddr P t (.slice (xs.map f) g) (.lit (.int k (i : Int))) = some (.rptr (f xs[i]).cells) :=
  evIndexAddr_slice h g k (by simp [hi]) (hn _)
theorem evIndexAddr_oslice {n i : Nat} (h : elay P t = some (none, n)) (id off len : Nat) (cap : Option Nat) (z : Nat) (k : IntKind) (hi : i < len) : evIndexAddr P t (.oslice id off len cap z) (.lit (.int k (i : Int))) = some (.ptr id (off + i * n)) := by
  unfold elay at h
  rw [Option.map_eq_some_iff] at h
  obtain ⟨⟨ln, el, j⟩, h1, h2⟩ := h
  simp only [Prod.mk.injEq] at h2
  obtain ⟨rfl, h2⟩ := h2
  simp [evIndexAddr, h1, h2, hi]
theorem evIndexAddr_arr {n len i : Nat} (h : elay P t = some (some len, n)) (q : PV) (k : IntKind) (hi : i < len) : evIndexAddr P t q (.lit (.int k (i : Int))) = moved q (i * n) := by
  unfold elay at h
  rw [Option.map_eq_some_iff] at h
  obtain ⟨⟨ln, el, j⟩, h1, h2⟩ := h
  simp only [Prod.mk.injEq] at h2
  obtain ⟨rfl, h2⟩ := h2
  simp [evIndexAddr, h1, h2, hi]
theorem moved_ptr (id off n : Nat) : moved (.ptr id off) n = some (.ptr id (off + n)) := (rfl)
theorem moved_rptr (cs : List PV) (n : Nat) : moved (.rptr cs) n = some (.rptr (cs.drop n)) := (rfl)

def isSl (P : Program) (t : TypeId) : Bool := match P.underlying t with
  | some (.slice _) => true
  | _ => false
theorem evB_len_slice {e : Env} (s : Sto) (ty : TypeId) {x : Operand} {es : List PV} {g : Grow} (h : isSl P t = true) (hx : evO e x = .slice es g) : evBuiltin P e s ty .len #[t] #[x] = some (.lit (.int .i64 es.length), s) := by
  unfold isSl at h
  split at h
  · rename_i el hd
    simp [evBuiltin, hx, hd]
  · simp at h
theorem evB_len_oslice {e : Env} (s : Sto) (ty : TypeId) {x : Operand} {id off n z : Nat} {cp : Option Nat} (h : isSl P t = true) (hx : evO e x = .oslice id off n cp z) : evBuiltin P e s ty .len #[t] #[x] = some (.lit (.int .i64 n), s) := by
  unfold isSl at h
  split at h
  · rename_i el hd
    simp [evBuiltin, hx, hd]
  · simp at h
theorem evB_len_str {e : Env} (s : Sto) (ty : TypeId) {x : Operand} {b : ByteArray} (h : P.underlying t = some .string) (hx : evO e x = .lit (.string b)) : evBuiltin P e s ty .len #[t] #[x] = some (.lit (.int .i64 b.size), s) := by
  have : pureRun P (Builtin.len_ #[t] ty #[.string b]) = some (.int .i64 b.size) := by
    simp only [Builtin.len_, underlying, program]
    simp [Bind.bind, Sem.bind, pureRun, h]
    rfl
  simp [evBuiltin, hx, this]
  rfl
theorem evB_append {e : Env} (s : Sto) (ty : TypeId) (ts : Array TypeId) (x y : Operand) : evBuiltin P e s ty .append ts #[x, y] = evAppend P s ts (evO e x) (evO e y) := (rfl)

/-- append at the type t: an element's cells, its bytes. -/
def apd (P : Program) (t : TypeId) : Option (Nat × Nat) :=
  match P.underlying t with
  | some (.slice el) => match P.info? el with
    | some i => match i.zero with
      | some z => if z.cells.size = i.size ∧ 0 < i.size ∧ 0 < i.bytes then some (i.size, i.bytes) else none
      | none => none
    | none => none
  | _ => none
theorem apd_eq {n m : Nat} (h : apd P t = some (n, m)) : ∃ el i z, P.underlying t = some (.slice el) ∧ P.info? el = some i ∧ i.zero = some z ∧ z.cells.size = i.size ∧ 0 < i.size ∧ 0 < i.bytes ∧ i.size = n ∧ i.bytes = m := by
  unfold apd at h
  split at h
  · rename_i el h1
    split at h
    · rename_i i h2
      split at h
      · rename_i z h3
        split at h
        · rename_i h4
          simp only [Option.some.injEq, Prod.mk.injEq] at h
          exact ⟨el, i, z, h1, h2, h3, h4.1, h4.2.1, h4.2.2, h.1, h.2⟩
        · simp at h
      · simp at h
    · simp at h
  · simp at h
theorem evAppend_nil {n m : Nat} (h : apd P t = some (n, m)) (s : Sto) (es : List PV) (g g' : Grow) : evAppend P s #[t, t] (.slice es g) (.slice [] g') = some (.slice es g, s) := by
  obtain ⟨el, i, z, h1, h2, h3, _⟩ := apd_eq h
  simp [evAppend, h1, h2]
theorem evAppend_full {n m : Nat} (h : apd P t = some (n, m)) (s : Sto) (es : List PV) (x : PV) (xs : List PV) (g' : Grow) (h1 : elemsOk n es = true) (h2 : elemsOk n (x :: xs) = true) (h3 : elemsSolid (x :: xs) = true) (h4 : (es.length + (x :: xs).length) * m ≤ 140737488355328) :
    evAppend P s #[t, t] (.slice es .full) (.slice (x :: xs) g') = some (.slice (es ++ x :: xs) (.tok s.next), s.push (.grow ((es.length + (x :: xs).length) * n))) := by
  obtain ⟨el, i, z, g1, g2, g3, g4, g5, g6, rfl, rfl⟩ := apd_eq h
  simp only [evAppend, g1, g2, g3]
  rw [if_pos (by simp only [g4, g5, g6, h1, h2, h3, h4, and_self])]
theorem evAppend_tok {n m id used : Nat} (h : apd P t = some (n, m)) (s : Sto) (es : List PV) (x : PV) (xs : List PV) (g' : Grow) (hg : s.get id = some (.grow used)) (hu : used = es.length * n) (h1 : elemsOk n es = true) (h2 : elemsOk n (x :: xs) = true) (h3 : elemsSolid (x :: xs) = true) (h4 : (es.length + (x :: xs).length) * m ≤ 140737488355328) :
    evAppend P s #[t, t] (.slice es (.tok id)) (.slice (x :: xs) g') = some (.slice (es ++ x :: xs) (.tok s.next), (s.set id none).push (.grow ((es.length + (x :: xs).length) * n))) := by
  obtain ⟨el, i, z, g1, g2, g3, g4, g5, g6, rfl, rfl⟩ := apd_eq h
  simp only [evAppend, g1, g2, g3]
  rw [if_pos (by simp only [g4, g5, g6, h1, h2, h3, h4, and_self])]
  simp only [hg]
  rw [if_pos hu]

/-- alloc at the type t: the zero's cells. -/
def alc (P : Program) (t : TypeId) : Option (List PV) := match P.info? t with
  | some i => match i.zero with
    | some z => cellsOf (ofValue z)
    | none => none
  | none => none
theorem evAlloc_eq {cs : List PV} (h : alc P t = some cs) (s : Sto) : evAlloc P s t = some (.ptr s.next 0, s.push (.cells cs)) := by
  unfold alc at h
  split at h
  · rename_i i hi
    split at h
    · rename_i z hz
      simp [evAlloc, hi, hz, evBox, h]
    · simp at h
  · simp at h

/-- a struct or array put together at the type t: the zero's cells, the parts' places. -/
def bld (P : Program) (t : TypeId) : Option (List PV × List (Nat × Nat)) :=
  match P.info? t, P.underlying t with
  | some i, some (.struct fs) => match i.zero.map ofValue with
    | some (.agg cs) => if fs.all (fun f => (P.info? f.type).isSome) then some (cs, fs.toList.map fun f => (f.offset, ((P.info? f.type).map (·.size)).getD 0)) else none
    | _ => none
  | _, _ => none
theorem evBuild_eq {cs : List PV} {pl : List (Nat × Nat)} (h : bld P t = some (cs, pl)) (e : Env) (parts : Array (Nat × Operand)) : evBuild P e t parts = (fillP (pl[·]?) e cs parts.toList).map .agg := by
  unfold bld at h
  split at h
  · rename_i i fs hi hd
    split at h
    · rename_i cs' hz
      split at h
      · rename_i hall
        simp only [Option.some.injEq, Prod.mk.injEq] at h
        obtain ⟨rfl, rfl⟩ := h
        simp only [evBuild, hi, hd, hz, hall, if_true]
        congr 2
        funext k
        simp only [placeS, List.getElem?_map, Array.getElem?_toList]
        cases hk : fs[k]? with
        | none => rfl
        | some f =>
          have := (Array.all_eq_true'.1 hall) f (Array.mem_of_getElem? hk)
          obtain ⟨ti, hti⟩ := Option.isSome_iff_exists.1 this
          simp [hti]
      · simp at h
    · simp at h
  · simp at h
/-- a slice's literal at the type t: an element's cells. -/
def bsl (P : Program) (t : TypeId) : Option Nat :=
  match P.underlying t with
  | some (.slice el) => match P.info? el with
    | some i => match i.zero with
      | some _ => some i.size
      | none => none
    | none => none
  | _ => none
theorem evBuildSlice_eq {n : Nat} (h : bsl P t = some n) (e : Env) (len : Nat) (parts : Array (Nat × Operand)) {es : List PV} (he : evElems e n 0 parts.toList = some es) (hl : es.length = len) (hm : len * n ≤ 16777216) : evBuildSlice P e t len parts = some (.slice es .full) := by
  unfold bsl at h
  split at h
  · rename_i el h1
    split at h
    · rename_i i h2
      split at h
      · rename_i z h3
        simp only [Option.some.injEq] at h
        subst h
        simp [evBuildSlice, h1, h2, h3, he, hl, hm]
      · simp at h
    · simp at h
  · simp at h

theorem push_next (s : Sto) (b : Box) : (s.push b).next = s.next + 1 := (rfl)
theorem set_next (s : Sto) (i : Nat) (b : Option Box) : (s.set i b).next = s.next := (rfl)
theorem push_get (s : Sto) (b : Box) (j : Nat) : (s.push b).get j = if j = s.next then some b else s.get j := (rfl)
theorem set_get (s : Sto) (i : Nat) (b : Option Box) (j : Nat) : (s.set i b).get j = if j = i then b else s.get j := (rfl)
theorem evBin_S (op : BinOp) (es : List PV) (g : Grow) (q : PV) : evBin P op t x y (.slice es g) q = none := by cases q <;> rfl
theorem evBin_O (op : BinOp) (id off n z : Nat) (cp : Option Nat) (q : PV) : evBin P op t x y (.oslice id off n cp z) q = none := by cases q <;> rfl
theorem evBin_F (op : BinOp) (f : Fn) (a b : List PV) (q : PV) : evBin P op t x y (.fn f a b) q = none := by cases q <;> rfl
theorem cells_agg (cs : List PV) : PV.cells (.agg cs) = cs := (rfl)
theorem cells_lit (v : Value) : PV.cells (.lit v) = [.lit v] := (rfl)
theorem cells_any : PV.cells .any = [.any] := (rfl)
theorem cells_ptr (i o : Nat) : PV.cells (.ptr i o) = [.ptr i o] := (rfl)
theorem cells_rptr (cs : List PV) : PV.cells (.rptr cs) = [.rptr cs] := (rfl)
theorem cells_slice (es : List PV) (g : Grow) : PV.cells (.slice es g) = [.slice es g] := (rfl)
theorem cells_oslice (i o n z : Nat) (cp : Option Nat) : PV.cells (.oslice i o n cp z) = [.oslice i o n cp z] := (rfl)
theorem cells_fn (f : Fn) (a b : List PV) : PV.cells (.fn f a b) = [.fn f a b] := (rfl)
theorem cells_map (i : Nat) : PV.cells (.map i) = [.map i] := (rfl)
theorem solid_int (k : IntKind) (n : Int) : PV.solid (.lit (.int k n)) = true := (rfl)
theorem solid_bool (b : Bool) : PV.solid (.lit (.bool b)) = true := (rfl)
theorem solid_str (b : ByteArray) : PV.solid (.lit (.string b)) = true := (rfl)
theorem solid_nilp : PV.solid (.lit (.pointer none)) = true := rfl
theorem solid_nilf : PV.solid (.lit .nilFunc) = true := rfl
theorem solid_ptr (i o : Nat) : PV.solid (.ptr i o) = true := (rfl)
theorem solid_rptr (cs : List PV) : PV.solid (.rptr cs) = true := (rfl)
theorem solid_slice (es : List PV) (g : Grow) : PV.solid (.slice es g) = true := (rfl)
theorem solid_oslice (i o n z : Nat) (cp : Option Nat) : PV.solid (.oslice i o n cp z) = true := (rfl)
theorem solid_fn (f : Fn) (a b : List PV) : PV.solid (.fn f a b) = true := (rfl)
theorem solid_map (i : Nat) : PV.solid (.map i) = true := rfl
theorem solid_any : PV.solid .any = false := rfl
theorem sF_next (b : Bool) : (sF b).next = 0 := (rfl)
theorem sF_get (b : Bool) (j : Nat) : (sF b).get j = none := (rfl)
theorem sF_own (b : Bool) : (sF b).own = b := (rfl)
theorem push_own (s : Sto) (b : Box) : (s.push b).own = s.own := (rfl)
theorem set_own (s : Sto) (i : Nat) (b : Option Box) : (s.set i b).own = s.own := (rfl)
theorem flag_own (s : Sto) (b : Bool) : (s.flag b).own = b := (rfl)
theorem flag_next (s : Sto) (b : Bool) : (s.flag b).next = s.next := (rfl)
theorem flag_get (s : Sto) (b : Bool) (j : Nat) : (s.flag b).get j = s.get j := (rfl)
theorem flag_flag (s : Sto) (b c : Bool) : (s.flag b).flag c = s.flag c := (rfl)
theorem flag_self (s : Sto) : s.flag s.own = s := (rfl)
theorem s0_next : s0.next = 0 := (rfl)
theorem evAppendN_U {n m : Nat} (h : apd P t = some (n, m)) (s : Sto) (b : PV) : evAppendN P s t t (.slice [] .full) b = match lenP b with
    | some l => if l = 0 then some (.slice [] .full, s) else match srcCells s n l b with
      | some xs => if l * m ≤ 140737488355328 then some (.oslice s.next 0 l none n, s.push (.cells xs)) else none
      | none => none
    | none => none := by
  obtain ⟨el, i, z, g1, g2, g3, g4, g5, g6, rfl, rfl⟩ := apd_eq h
  simp only [evAppendN, g1, g2]
  cases lenP b with
  | none => rfl
  | some l =>
    simp only [g6, and_self, if_true, g3]
    cases srcCells s i.size l b <;> simp only [g4, and_true]
theorem s0_get (j : Nat) : s0.get j = none := (rfl)
theorem cellsOf_agg (cs : List PV) : cellsOf (.agg cs) = some cs := (rfl)
theorem cellsOf_int (k : IntKind) (n : Int) : cellsOf (.lit (.int k n)) = some [.lit (.int k n)] := (rfl)
theorem cellsOf_bool (b : Bool) : cellsOf (.lit (.bool b)) = some [.lit (.bool b)] := (rfl)
theorem cellsOf_str (b : ByteArray) : cellsOf (.lit (.string b)) = some [.lit (.string b)] := (rfl)
theorem cellsOf_slice (es : List PV) (g : Grow) : cellsOf (.slice es g) = some [.slice es g] := (rfl)
theorem cellsOf_ptr (i o : Nat) : cellsOf (.ptr i o) = some [.ptr i o] := (rfl)
theorem cellsOf_fn (f : Fn) (a b : List PV) : cellsOf (.fn f a b) = some [.fn f a b] := (rfl)
theorem wrap_id {n : Int} (h1 : -9223372036854775808 ≤ n) (h2 : n ≤ 9223372036854775807) : IntKind.i64.wrap n = n := by
  rw [IntKind.wrap_i64]; omega

/-! The same, unconditional: for the types' own words (printed for each seat). -/
theorem loadFrom_A {n : Nat} (h : lay P t = some (true, n)) (cs : List PV) (off : Nat) : loadFrom P t cs off = if off + n ≤ cs.length then some (.agg ((cs.drop off).take n)) else none := by rw [loadFrom_eq, h]
theorem evStore_U {n : Nat} {g : Bool} (h : lay P t = some (g, n)) (s : Sto) (id off : Nat) (q : PV) : evStore P s t (.ptr id off) q = match cellsOf q with
    | some xs => match s.get id with
      | some (.cells cs) => if xs.length = n ∧ xs.all PV.solid = true ∧ off + xs.length ≤ cs.length then some (s.set id (some (.cells (writeAt cs off xs)))) else none
      | _ => none
    | none => none := by
  unfold lay at h
  cases hd : P.underlying t with
  | none => simp [hd] at h
  | some d =>
    cases hi : P.info? t with
    | none => simp [hd, hi] at h
    | some i =>
      simp only [hd, hi, Option.some.injEq, Prod.mk.injEq] at h
      obtain ⟨_, rfl⟩ := h
      simp only [evStore, hi]
      cases cellsOf q <;> rfl
theorem evLoad_U (s : Sto) (id off : Nat) : evLoad P s t (.ptr id off) = match s.get id with
    | some (.cells cs) => loadFrom P t cs off
    | _ => none := (rfl)
theorem elay_eq {n : Nat} {l : Option Nat} (h : elay P t = some (l, n)) : ∃ el i, elemInfo P t = some (l, el, i) ∧ i.size = n := by
  unfold elay at h
  rw [Option.map_eq_some_iff] at h
  obtain ⟨⟨ln, el, j⟩, h1, h2⟩ := h
  simp only [Prod.mk.injEq] at h2
  obtain ⟨rfl, rfl⟩ := h2
  exact ⟨el, j, h1, rfl⟩
theorem evIndexAddr_S {n : Nat} (h : elay P t = some (none, n)) (es : List PV) (g : Grow) (k : IntKind) (i : Int) : evIndexAddr P t (.slice es g) (.lit (.int k i)) = if 0 ≤ i then (match es[i.toNat]? with
    | some e => if e.cells.length = n then some (.rptr e.cells) else none
    | none => none) else none := by
  obtain ⟨el, j, h1, rfl⟩ := elay_eq h
  simp only [evIndexAddr, h1]
  rfl
theorem evIndexAddr_O {n : Nat} (h : elay P t = some (none, n)) (id off len z : Nat) (c : Option Nat) (k : IntKind) (i : Int) : evIndexAddr P t (.oslice id off len c z) (.lit (.int k i)) = if 0 ≤ i ∧ i.toNat < len then some (.ptr id (off + i.toNat * n)) else none := by
  obtain ⟨el, j, h1, rfl⟩ := elay_eq h
  simp only [evIndexAddr, h1]
theorem evIndexAddr_A {n len : Nat} (h : elay P t = some (some len, n)) (q : PV) (k : IntKind) (i : Int) : evIndexAddr P t q (.lit (.int k i)) = if 0 ≤ i ∧ i.toNat < len then moved q (i.toNat * n) else none := by
  obtain ⟨el, j, h1, rfl⟩ := elay_eq h
  simp only [evIndexAddr, h1]
theorem evIndex_A {n len : Nat} {el : TypeId} (h : elay P t = some (some len, n)) (hu : P.underlying t = some (.array len el)) (cs : List PV) (k : IntKind) (i : Int) : evIndex P t (.agg cs) (.lit (.int k i)) = if 0 ≤ i ∧ i.toNat < len then loadFrom P el cs (i.toNat * n) else none := by
  obtain ⟨el', j, h1, rfl⟩ := elay_eq h
  unfold elemInfo at h1
  simp only [hu, Option.map_eq_some_iff, Prod.mk.injEq, Option.some.injEq] at h1
  obtain ⟨i', h2, _, rfl, rfl⟩ := h1
  simp only [evIndex, hu, h2]
theorem evB_len_U {e : Env} (h : isSl P t = true) (s : Sto) (ty : TypeId) (x : Operand) : evBuiltin P e s ty .len #[t] #[x] = match evO e x with
    | .slice es _ => some (.lit (.int .i64 es.length), s)
    | .oslice _ _ n _ _ => some (.lit (.int .i64 n), s)
    | .lit v => match pureRun P (Builtin.len_ #[t] ty #[v]) with
      | some r => some (ofValue r, s)
      | none => none
    | _ => none := by
  unfold isSl at h
  split at h
  · rename_i el hd
    simp only [evBuiltin]
    simp only [List.getElem?_toArray, List.getElem?_cons_zero, hd]
    rfl
  · simp at h
theorem evB_len_str_U {e : Env} (h : P.underlying t = some .string) (s : Sto) (ty : TypeId) (x : Operand) : evBuiltin P e s ty .len #[t] #[x] = match evO e x with
    | .lit (.string b) => some (.lit (.int .i64 b.size), s)
    | p => evBuiltin P (fun _ => p) s ty .len #[t] #[.tmp 0] := by
  split
  · rename_i b hb
    exact evB_len_str s ty h hb
  · simp only [evBuiltin, evO]
theorem evAppend_U {n m : Nat} (h : apd P t = some (n, m)) (s : Sto) (es xs : List PV) (g g' : Grow) : evAppend P s #[t, t] (.slice es g) (.slice xs g') = match xs with
    | [] => some (.slice es g, s)
    | x :: xs => if elemsOk n es = true ∧ elemsOk n (x :: xs) = true ∧ elemsSolid (x :: xs) = true ∧ (es.length + (x :: xs).length) * m ≤ 140737488355328 then
        match g with
        | .full => some (.slice (es ++ x :: xs) (.tok s.next), s.push (.grow ((es.length + (x :: xs).length) * n)))
        | .tok id => match s.get id with
          | some (.grow used) => if used = es.length * n then some (.slice (es ++ x :: xs) (.tok s.next), (s.set id none).push (.grow ((es.length + (x :: xs).length) * n))) else none
          | _ => none
        | _ => none
      else none := by
  obtain ⟨el, i, z, g1, g2, g3, g4, g5, g6, rfl, rfl⟩ := apd_eq h
  simp only [evAppend, g1, g2, g3]
  cases xs with
  | nil => simp
  | cons x xs =>
    simp only [g4, g5, g6, true_and]
    rfl
theorem evBuildSlice_U {n : Nat} (h : bsl P t = some n) (e : Env) (len : Nat) (parts : Array (Nat × Operand)) : evBuildSlice P e t len parts = match evElems e n 0 parts.toList with
    | some es => if es.length = len ∧ len * n ≤ 16777216 then some (.slice es .full) else none
    | none => none := by
  unfold bsl at h
  split at h
  · rename_i el h1
    split at h
    · rename_i i h2
      split at h
      · rename_i z h3
        simp only [Option.some.injEq] at h
        subst h
        simp only [evBuildSlice, h1, h2, h3]
        cases evElems e i.size 0 parts.toList <;> rfl
      · simp at h
    · simp at h
  · simp at h
theorem evSlice_S {n : Nat} (h : elay P t = some (none, n)) (es : List PV) (g : Grow) (lo hi mx : Option PV) : evSlice P t (.slice es g) lo hi mx = match bounds3 es.length es.length lo hi mx with
    | some (l, h, m) => if elemsOk n es = true then
        some (.slice ((es.take h).drop l) (match m, g with
          | some k, _ => if k = h then .full else .no
          | none, .full => if h = es.length then .full else .no
          | none, _ => .no))
      else none
    | _ => none := by
  obtain ⟨el, j, h1, rfl⟩ := elay_eq h
  unfold elemInfo at h1
  split at h1
  · rename_i el' hd
    simp only [Option.map_eq_some_iff, Prod.mk.injEq] at h1
    obtain ⟨i', h2, _, rfl, rfl⟩ := h1
    simp only [evSlice, hd, h2]
    cases bounds3 es.length es.length lo hi mx <;> rfl
  · simp at h1
  · simp at h1
theorem evSlice_str (h : P.underlying t = some .string) (b : ByteArray) (lo hi : Option PV) : evSlice P t (.lit (.string b)) lo hi none = match bounds3 b.size b.size lo hi none with
    | some (l, h, _) => some (.lit (.string (b.extract l h)))
    | _ => none := by
  simp only [evSlice, h]
  cases bounds3 b.size b.size lo hi none <;> rfl
theorem evNil_sl (h : isSl P t = true) (es : List PV) (g : Grow) : evNil P t (.const (.slice none 0 0)) (.slice es g) = match es, g with
    | _ :: _, _ => some false
    | [], .nil => some true
    | [], .ex => some false
    | [], _ => none := by
  unfold isSl at h
  split at h
  · rename_i el hd
    simp only [evNil, hd]
    rfl
  · simp at h
theorem elemsOk_nil (n : Nat) : elemsOk n [] = true := (rfl)
theorem elemsOk_cons (n : Nat) (x : PV) (xs : List PV) : elemsOk n (x :: xs) = (decide (x.cells.length = n) && elemsOk n xs) := by simp only [elemsOk, List.all_cons]; congr 1
theorem elemsOk_append (n : Nat) (xs ys : List PV) : elemsOk n (xs ++ ys) = (elemsOk n xs && elemsOk n ys) := by simp [elemsOk]
theorem elemsOk_map {α : Type} (n : Nat) (xs : List α) (f : α → PV) (h : ∀ x, (f x).cells.length = n) : elemsOk n (xs.map f) = true := by simp [elemsOk, h]
theorem elemsSolid_nil : elemsSolid [] = true := (rfl)
theorem elemsSolid_cons (x : PV) (xs : List PV) : elemsSolid (x :: xs) = (x.cells.all PV.solid && elemsSolid xs) := by simp [elemsSolid]
theorem elemsSolid_map {α : Type} (xs : List α) (f : α → PV) (h : ∀ x, (f x).cells.all PV.solid = true) : elemsSolid (xs.map f) = true := by simp only [elemsSolid, List.all_map, List.all_eq_true]; exact fun x _ => h x
theorem elemsOk_take (n : Nat) (xs : List PV) (k : Nat) (h : elemsOk n xs = true) : elemsOk n (xs.take k) = true := List.all_eq_true.2 fun e he => List.all_eq_true.1 h e (List.mem_of_mem_take he)
theorem elemsOk_drop (n : Nat) (xs : List PV) (k : Nat) (h : elemsOk n xs = true) : elemsOk n (xs.drop k) = true := List.all_eq_true.2 fun e he => List.all_eq_true.1 h e (List.mem_of_mem_drop he)
theorem normL_map {α : Type} (xs : List α) (f : α → PV) (h : ∀ x, (f x).norm = f x) : normL (xs.map f) = xs.map f := by
  rw [normL_eq_map, List.map_map]
  exact List.map_congr_left fun x _ => h x
theorem cleanL_map {α : Type} (xs : List α) (f : α → PV) (h : ∀ x, (f x).clean = true) : cleanL (xs.map f) = true := by
  rw [cleanL_iff]
  intro p hp
  obtain ⟨x, _, rfl⟩ := List.mem_map.1 hp
  exact h x
theorem normL_append (xs ys : List PV) : normL (xs ++ ys) = normL xs ++ normL ys := by simp [normL_eq_map]
theorem cleanL_append (xs ys : List PV) : cleanL (xs ++ ys) = (cleanL xs && cleanL ys) := by
  induction xs with
  | nil => simp [cleanL]
  | cons x xs ih => simp [cleanL, ih, Bool.and_assoc]
theorem evSliceX_S (es : List PV) (g : Grow) (lo hi mx : Option PV) : evSliceX P t (.slice es g) lo hi mx = evSlice P t (.slice es g) lo hi mx := (rfl)
theorem evSliceX_L (v : Value) (lo hi mx : Option PV) : evSliceX P t (.lit v) lo hi mx = evSlice P t (.lit v) lo hi mx := (rfl)
theorem evSliceX_P (id off : Nat) (lo hi mx : Option PV) : evSliceX P t (.ptr id off) lo hi mx = evSlice P t (.ptr id off) lo hi mx := (rfl)
theorem evSliceX_R (cs : List PV) (lo hi mx : Option PV) : evSliceX P t (.rptr cs) lo hi mx = evSlice P t (.rptr cs) lo hi mx := (rfl)
theorem evSliceX_O {n : Nat} (h : elay P t = some (none, n)) (id off k z : Nat) (c : Option Nat) (lo hi : Option PV) : evSliceX P t (.oslice id off k c z) lo hi none = match bounds3 k (c.getD k) lo hi none with
    | some (l, h, _) => match c with
      | some cp => if k ≤ cp then some (.oslice id (if cp = l then off else off + l * n) (h - l) (some (cp - l)) (if n = z then z else 0)) else none
      | none => if l < k then some (.oslice id (off + l * n) (h - l) none (if n = z then z else 0)) else none
    | none => none := by
  obtain ⟨el, j, h1, rfl⟩ := elay_eq h
  unfold elemInfo at h1
  split at h1
  · rename_i el' hd
    simp only [Option.map_eq_some_iff, Prod.mk.injEq] at h1
    obtain ⟨i', h2, _, rfl, rfl⟩ := h1
    simp only [evSliceX, evSliceO, hd, h2]
    cases bounds3 k (c.getD k) lo hi none with
    | none => rfl
    | some q => obtain ⟨l, h, m⟩ := q; rfl
  · simp at h1
  · simp at h1
theorem evBX_append (e : Env) (s : Sto) (ty : TypeId) (ts : Array TypeId) (x y : Operand) : evBuiltinX P e s ty .append ts #[x, y] = if isO (evO e x) = true then (if s.own = true then (match ts.toList with
    | [t, t'] => evAppendO P s t t' (evO e x) (evO e y)
    | _ => none) else none) else if (s.own && isE (evO e x)) = true then (match ts.toList with
    | [t, t'] => evAppendN P s t t' (evO e x) (evO e y)
    | _ => none) else evAppend P s ts (evO e x) (evO e y) := (rfl)
theorem evBX_len (e : Env) (s : Sto) (ty : TypeId) (ts : Array TypeId) (x : Operand) : evBuiltinX P e s ty .len ts #[x] = evBuiltin P e s ty .len ts #[x] := (rfl)
theorem evBX_copy (e : Env) (s : Sto) (ty t t' : TypeId) (x y : Operand) : evBuiltinX P e s ty .copy #[t, t'] #[x, y] = evCopy P s t (evO e x) (evO e y) := (rfl)
theorem evBX_copy1 (e : Env) (s : Sto) (ty t : TypeId) (x y : Operand) : evBuiltinX P e s ty .copy #[t] #[x, y] = evCopy P s t (evO e x) (evO e y) := (rfl)
theorem evBX_cap (h : isSl P t = true) (e : Env) (s : Sto) (ty : TypeId) (x : Operand) : evBuiltinX P e s ty .cap #[t] #[x] = match evO e x with
    | .oslice _ _ _ (some c) _ => some (.lit (.int .i64 c), s)
    | _ => none := by
  unfold isSl at h
  split at h
  · rename_i el hd
    simp only [evBuiltinX, List.getElem?_toArray, List.getElem?_cons_zero, hd]
    rfl
  · simp at h
theorem evBX_max (e : Env) (s : Sto) (ty : TypeId) (ts : Array TypeId) (a : Array Operand) : evBuiltinX P e s ty .max ts a = evBuiltin P e s ty .max ts a := by unfold evBuiltinX; split <;> first | rfl | simp_all
theorem evBX_min (e : Env) (s : Sto) (ty : TypeId) (ts : Array TypeId) (a : Array Operand) : evBuiltinX P e s ty .min ts a = evBuiltin P e s ty .min ts a := by unfold evBuiltinX; split <;> first | rfl | simp_all
theorem evBX_real (e : Env) (s : Sto) (ty : TypeId) (ts : Array TypeId) (a : Array Operand) : evBuiltinX P e s ty .real ts a = evBuiltin P e s ty .real ts a := by unfold evBuiltinX; split <;> first | rfl | simp_all
theorem evBX_imag (e : Env) (s : Sto) (ty : TypeId) (ts : Array TypeId) (a : Array Operand) : evBuiltinX P e s ty .imag ts a = evBuiltin P e s ty .imag ts a := by unfold evBuiltinX; split <;> first | rfl | simp_all
theorem evBX_complex (e : Env) (s : Sto) (ty : TypeId) (ts : Array TypeId) (a : Array Operand) : evBuiltinX P e s ty .complex ts a = evBuiltin P e s ty .complex ts a := by unfold evBuiltinX; split <;> first | rfl | simp_all
theorem evCopy_U {n : Nat} (h : elay P t = some (none, n)) (s : Sto) (id off k z : Nat) (c : Option Nat) (b : PV) : evCopy P s t (.oslice id off k c z) b = match lenP b with
    | some m => match srcCells s n (Nat.min m k) b with
      | some xs => (ownWrite s id off xs).map fun s' => (.lit (.int .i64 (Nat.min m k : Nat)), s')
      | none => none
    | none => none := by
  obtain ⟨el, j, h1, rfl⟩ := elay_eq h
  unfold elemInfo at h1
  split at h1
  · rename_i el' hd
    simp only [Option.map_eq_some_iff, Prod.mk.injEq] at h1
    obtain ⟨i', h2, _, rfl, rfl⟩ := h1
    simp only [evCopy, hd]
    cases lenP b <;> simp only [h2] <;> rfl
  · simp at h1
  · simp at h1
theorem evAppendO_S {n m : Nat} (h : apd P t = some (n, m)) (s : Sto) (id off k c z : Nat) (b : PV) : evAppendO P s t t (.oslice id off k (some c) z) b = match lenP b with
    | some l => if 0 < l then match srcCells s n l b with
        | some xs => if k + l ≤ c then (ownWrite s id (off + k * n) xs).map fun s' => (.oslice id off (k + l) (some c) z, s')
          else if (k + l) * m ≤ 140737488355328 then (ownCells s id off (k * n)).map fun old => (.oslice s.next 0 (k + l) none n, s.push (.cells (old ++ xs))) else none
        | none => none
      else none
    | none => none := by
  obtain ⟨el, i, z, g1, g2, g3, g4, g5, g6, rfl, rfl⟩ := apd_eq h
  simp only [evAppendO, g1, g2]
  cases lenP b with
  | none => rfl
  | some l =>
    simp only [g5, g6, and_true, true_and, g3]
    by_cases hl : 0 < l
    · simp only [if_pos hl]
      cases srcCells s i.size l b with
      | none => rfl
      | some xs => simp only [g4, and_true]
    · simp only [if_neg hl]
theorem evAppendO_I {n m : Nat} (h : apd P t = some (n, m)) {t' : TypeId} {kk : IntKind} (h' : P.underlying t' = some (.int kk)) (s : Sto) (id off k c z : Nat) (l : Int) : evAppendO P s t t' (.oslice id off k (some c) z) (.lit (.int .i64 l)) = if 0 < l ∧ c < k + l.toNat ∧ (k + l.toNat) * m ≤ 140737488355328 then (ownCells s id off (k * n)).map fun old => (.oslice s.next 0 (k + l.toNat) none n, s.push (.cells (old ++ List.replicate (l.toNat * n) .any))) else none := by
  obtain ⟨el, i, z, g1, g2, g3, g4, g5, g6, rfl, rfl⟩ := apd_eq h
  simp only [evAppendO, g1, g2, g3, g4, g5, g6, h', true_and, if_true]
/-- An element's shape, of a slice's type. -/
def efl (P : Program) (t : TypeId) : Option (Bool × Nat) := match P.underlying t with
  | some (.slice el) => (P.info? el).map fun i => (isAgT P el, i.size)
  | _ => none
theorem frz1_O {n : Nat} {g : Bool} (h : efl P t = some (g, n)) (s : Sto) (id off k z : Nat) (c : Option Nat) : frz1 P s (some t) (.oslice id off k c z) = match ownCells s id off (k * n) with
    | some cs => if cleanL cs = true then
        if g = true then some (.slice (chunks n k (normL cs)) .no)
        else if n = 1 ∧ (normL cs).all one1 = true then some (.slice (normL cs) .no) else none
      else none
    | none => none := by
  unfold efl at h
  split at h
  · rename_i el hd
    simp only [Option.map_eq_some_iff, Prod.mk.injEq] at h
    obtain ⟨i, h1, rfl, rfl⟩ := h
    simp only [frz1, Option.bind_some, hd, h1]
    cases ownCells s id off (k * i.size) <;> rfl
  · simp at h
theorem frz1_P (s : Sto) (ty : Option TypeId) (id off : Nat) : frz1 P s ty (.ptr id off) = match s.get id with
    | some (.cells cs) => if cleanL (cs.drop off) = true then some (.rptr (normL (cs.drop off))) else none
    | _ => none := (rfl)
theorem frz1_L (s : Sto) (ty : Option TypeId) (v : Value) : frz1 P s ty (.lit v) = some (.lit v) := by simp [frz1, PV.clean, PV.norm]
theorem frz1_any (s : Sto) (ty : Option TypeId) : frz1 P s ty .any = some .any := by simp [frz1, PV.clean, PV.norm]
theorem frz1_S (s : Sto) (ty : Option TypeId) (es : List PV) (g : Grow) : frz1 P s ty (.slice es g) = if cleanL es = true then some (.slice (normL es) .no) else none := by simp only [frz1, PV.clean, PV.norm]; congr
theorem frz1_A (s : Sto) (ty : Option TypeId) (cs : List PV) : frz1 P s ty (.agg cs) = if cleanL cs = true then some (.agg (normL cs)) else none := by simp only [frz1, PV.clean, PV.norm]; congr
theorem frz1_R (s : Sto) (ty : Option TypeId) (cs : List PV) : frz1 P s ty (.rptr cs) = if cleanL cs = true then some (.rptr (normL cs)) else none := by simp only [frz1, PV.clean, PV.norm]; congr
theorem frz1_F (s : Sto) (ty : Option TypeId) (f : Fn) (a b : List PV) : frz1 P s ty (.fn f a b) = if cleanL a = true ∧ cleanL b = true then some (.fn f (normL a) (normL b)) else none := by simp only [frz1, PV.clean, PV.norm, Bool.and_eq_true]
theorem frz_L (s : Sto) (ty : Option TypeId) (v : Value) : frz P s ty (.lit v) = some (.lit v) := frz1_L (P := P) s ty v
theorem frz_any (s : Sto) (ty : Option TypeId) : frz P s ty .any = some .any := frz1_any (P := P) s ty
theorem frz_P (s : Sto) (ty : Option TypeId) (id off : Nat) : frz P s ty (.ptr id off) = frz1 P s ty (.ptr id off) := (rfl)
theorem frz_S (s : Sto) (ty : Option TypeId) (es : List PV) (g : Grow) : frz P s ty (.slice es g) = if cleanL es = true then some (.slice (normL es) .no) else none := frz1_S (P := P) s ty es g
theorem frz_A (s : Sto) (ty : Option TypeId) (cs : List PV) : frz P s ty (.agg cs) = if cleanL cs = true then some (.agg (normL cs)) else none := frz1_A (P := P) s ty cs
theorem frz_R (s : Sto) (ty : Option TypeId) (cs : List PV) : frz P s ty (.rptr cs) = if cleanL cs = true then some (.rptr (normL cs)) else none := frz1_R (P := P) s ty cs
theorem frz_O (s : Sto) (ty : Option TypeId) (id off k z : Nat) (c : Option Nat) : frz P s ty (.oslice id off k c z) = frz1 P s ty (.oslice id off k c z) := (rfl)
theorem frz_F (s : Sto) (ty : Option TypeId) (f : Fn) (a b : List PV) : frz P s ty (.fn f a b) = match frzL P s [] a, frzL P s [] b with
    | some a', some b' => some (.fn f a' b')
    | _, _ => none := (rfl)
theorem chunks_flat {α : Type} (n : Nat) (f : α → List PV) : ∀ (xs : List α), (∀ x, (f x).length = n) → chunks n xs.length (xs.flatMap f) = xs.map fun x => .agg (f x)
  | [], _ => rfl
  | x :: xs, h => by
    simp only [List.length_cons, List.flatMap_cons, chunks, List.map_cons]
    rw [List.take_left' (h x), List.drop_left' (h x), chunks_flat n f xs h]
end

/-! What comes after is left alone till its turn. -/
structure Fix {α : Sort u} (x : α) : Type where
def Hide {α : Sort u} (x : α) (_ : Fix x) : α := x
theorem hide3 {α β γ : Type} (F : α → β → γ → Prop) (f : Fix F) (x : α) (y : β) (z : γ) : Hide F f x y z = F x y z := (rfl)
theorem hide2 {α β : Type} (F : α → β → Prop) (f : Fix F) (x : α) (y : β) : Hide F f x y = F x y := (rfl)
section
variable {P : Program} {L : Lb} {e e' : Env} {s s' : Sto}
def WG (P : Program) (L : Lb) (ds : List (Option Tmp)) : List Oper → (Env → Sto → Prop) → Env → Sto → Prop
  | [], Q, e, s => Q e s
  | o :: os, Q, e, s => match o.guard with
    | none => WOp P L o (Hide (fun p s' => WG P L ds os Q (putE e o.dst p) s') ⟨⟩) e s
    | some (j, want) => match (ds[j]?).bind id with
      | some d => match e d with
        | .lit (.bool b) => if b = want then WOp P L o (Hide (fun p s' => WG P L ds os Q (putE e o.dst p) s') ⟨⟩) e s else WG P L ds os Q (putE e o.dst (.lit (.tuple #[]))) s
        | .lit (.tuple us) => if us.size = 0 then WG P L ds os Q (putE e o.dst (.lit (.tuple #[]))) s else False
        | _ => False
      | none => False
theorem WG_eq (ops : Array Oper) : ∀ (os : List Oper) (Q : Env → Sto → Prop) (e : Env) (s : Sto), WG P L (ops.toList.map (·.dst)) os Q e s = WOs P L ops os Q e s
  | [], Q, e, s => rfl
  | o :: os, Q, e, s => by
    have ih := fun e s => WG_eq ops os Q e s
    have hk : Hide (fun p s' => WG P L (ops.toList.map (·.dst)) os Q (putE e o.dst p) s') ⟨⟩ = (fun p s' => WOs P L ops os Q (putE e o.dst p) s') := by
      funext p s'
      exact ih _ _
    simp only [WG, WOs, wantedP]
    rw [hk]
    cases hg : o.guard with
    | none => rfl
    | some q =>
      obtain ⟨j, want⟩ := q
      simp only
      have hd : ((ops.toList.map (·.dst))[j]?).bind id = (ops[j]?).bind (·.dst) := by
        rw [List.getElem?_map, Array.getElem?_toList]
        cases ops[j]? <;> rfl
      rw [hd]
      cases (ops[j]?).bind (·.dst) with
      | none => rfl
      | some d =>
        simp only
        cases hed : e d with
        | lit v =>
          cases v with
          | bool b =>
            simp only
            rw [ih]
            by_cases hbw : b = want
            · subst hbw
              simp
            · rw [if_neg hbw]
              have : (b == want) = false := by simpa using hbw
              rw [this]
              rfl
          | tuple us =>
            simp only
            by_cases hz : us.size = 0
            · simp only [hz, if_true]
              rw [ih]
              rfl
            · simp only [hz, if_false]
          | _ => rfl
        | _ => rfl
theorem WOp_move (d : Option Tmp) (ty : TypeId) (pos : String) (aft : Array Edge) (g : Option (Nat × Bool)) (K : PV → Sto → Prop) (x : Operand) : WOp P L ⟨d, .move x, ty, pos, aft, g⟩ K e s = K (evO e x) s := (rfl)
theorem WOp_assign (d : Option Tmp) (ty : TypeId) (pos : String) (aft : Array Edge) (g : Option (Nat × Bool)) (K : PV → Sto → Prop) (x : Operand) : WOp P L ⟨d, .assign x, ty, pos, aft, g⟩ K e s = K (evO e x) s := (rfl)
theorem WOp_pick (d : Option Tmp) (ty : TypeId) (pos : String) (aft : Array Edge) (g : Option (Nat × Bool)) (K : PV → Sto → Prop) (c a b : Operand) : WOp P L ⟨d, .pick c a b, ty, pos, aft, g⟩ K e s = (match evO e c with
    | .lit (.bool t) => K (if t = true then evO e a else evO e b) s
    | _ => False) := by
  simp only [WOp, evPrim]
  cases evO e c <;> try rfl
  rename_i v
  cases v <;> rfl
theorem WOp_alloc (d : Option Tmp) (ty : TypeId) (pos : String) (aft : Array Edge) (g : Option (Nat × Bool)) (K : PV → Sto → Prop) (el : TypeId) : WOp P L ⟨d, .alloc el, ty, pos, aft, g⟩ K e s = (match evAlloc P s el with
    | some (p, s') => K p s'
    | none => False) := (rfl)
theorem WOp_box (d : Option Tmp) (ty : TypeId) (pos : String) (aft : Array Edge) (g : Option (Nat × Bool)) (K : PV → Sto → Prop) (t : TypeId) (x : Operand) : WOp P L ⟨d, .box t x, ty, pos, aft, g⟩ K e s = (match evBox s (evO e x) with
    | some (p, s') => K p s'
    | none => False) := (rfl)
theorem WOp_build (d : Option Tmp) (ty : TypeId) (pos : String) (aft : Array Edge) (g : Option (Nat × Bool)) (K : PV → Sto → Prop) (t : TypeId) (parts : Array (Nat × Operand)) : WOp P L ⟨d, .build t parts, ty, pos, aft, g⟩ K e s = (match evBuild P e t parts with
    | some p => K p s
    | none => False) := by
  simp only [WOp, evPrim]
  cases evBuild P e t parts <;> rfl
theorem WOp_buildSlice (d : Option Tmp) (ty : TypeId) (pos : String) (aft : Array Edge) (g : Option (Nat × Bool)) (K : PV → Sto → Prop) (t : TypeId) (n : Nat) (parts : Array (Nat × Operand)) : WOp P L ⟨d, .buildSlice t n parts, ty, pos, aft, g⟩ K e s = (match evBuildSlice P e t n parts with
    | some p => K p s
    | none => False) := by
  simp only [WOp, evPrim]
  cases evBuildSlice P e t n parts <;> rfl
theorem WOp_load (d : Option Tmp) (ty : TypeId) (pos : String) (aft : Array Edge) (g : Option (Nat × Bool)) (K : PV → Sto → Prop) (t : TypeId) (a : Operand) : WOp P L ⟨d, .load t a, ty, pos, aft, g⟩ K e s = (match evLoad P s t (evO e a) with
    | some p => K p s
    | none => False) := by
  simp only [WOp, evPrim]
  cases evLoad P s t (evO e a) <;> rfl
theorem WOp_store (d : Option Tmp) (ty : TypeId) (pos : String) (aft : Array Edge) (g : Option (Nat × Bool)) (K : PV → Sto → Prop) (t : TypeId) (a x : Operand) : WOp P L ⟨d, .store t a x, ty, pos, aft, g⟩ K e s = (match evStore P s t (evO e a) (evO e x) with
    | some s' => K .any s'
    | none => False) := by
  simp only [WOp, evPrim]
  cases evStore P s t (evO e a) (evO e x) <;> rfl
theorem WOp_unOp (d : Option Tmp) (ty : TypeId) (pos : String) (aft : Array Edge) (g : Option (Nat × Bool)) (K : PV → Sto → Prop) (op : UnOp) (t : TypeId) (x : Operand) : WOp P L ⟨d, .unOp op t x, ty, pos, aft, g⟩ K e s = (match evUn P op (evO e x) with
    | some p => K p s
    | none => False) := by
  simp only [WOp, evPrim]
  cases evUn P op (evO e x) <;> rfl
theorem WOp_convert (d : Option Tmp) (ty : TypeId) (pos : String) (aft : Array Edge) (g : Option (Nat × Bool)) (K : PV → Sto → Prop) (t u : TypeId) (x : Operand) : WOp P L ⟨d, .convert t u x, ty, pos, aft, g⟩ K e s = (match evConv P s t u (evO e x) with
    | some p => K p s
    | none => False) := by
  simp only [WOp, evPrim]
  cases evConv P s t u (evO e x) <;> rfl
theorem WOp_makeFunc (d : Option Tmp) (ty : TypeId) (pos : String) (aft : Array Edge) (g : Option (Nat × Bool)) (K : PV → Sto → Prop) (f : Fn) (a b : Array Operand) : WOp P L ⟨d, .makeFunc f a b, ty, pos, aft, g⟩ K e s = K (.fn f (a.toList.map (evO e)) (b.toList.map (evO e))) s := (rfl)
theorem WOp_slice (d : Option Tmp) (ty : TypeId) (pos : String) (aft : Array Edge) (g : Option (Nat × Bool)) (K : PV → Sto → Prop) (t : TypeId) (x : Operand) (lo hi mx : Option Operand) : WOp P L ⟨d, .slice t x lo hi mx, ty, pos, aft, g⟩ K e s = (match evSliceX P t (evO e x) (lo.map (evO e)) (hi.map (evO e)) (mx.map (evO e)) with
    | some p => K p s
    | none => False) := by
  simp only [WOp, evPrim]
  cases evSliceX P t (evO e x) (lo.map (evO e)) (hi.map (evO e)) (mx.map (evO e)) <;> rfl
theorem WOp_fieldAddr (d : Option Tmp) (ty : TypeId) (pos : String) (aft : Array Edge) (g : Option (Nat × Bool)) (K : PV → Sto → Prop) (t : TypeId) (x : Operand) (f : Nat) : WOp P L ⟨d, .fieldAddr t x f, ty, pos, aft, g⟩ K e s = (match evFieldAddr P t (evO e x) f with
    | some p => K p s
    | none => False) := by
  simp only [WOp, evPrim]
  cases evFieldAddr P t (evO e x) f <;> rfl
theorem WOp_field (d : Option Tmp) (ty : TypeId) (pos : String) (aft : Array Edge) (g : Option (Nat × Bool)) (K : PV → Sto → Prop) (t : TypeId) (x : Operand) (f : Nat) : WOp P L ⟨d, .field t x f, ty, pos, aft, g⟩ K e s = (match evField P t (evO e x) f with
    | some p => K p s
    | none => False) := by
  simp only [WOp, evPrim]
  cases evField P t (evO e x) f <;> rfl
theorem WOp_indexAddr (d : Option Tmp) (ty : TypeId) (pos : String) (aft : Array Edge) (g : Option (Nat × Bool)) (K : PV → Sto → Prop) (t : TypeId) (x i : Operand) : WOp P L ⟨d, .indexAddr t x i, ty, pos, aft, g⟩ K e s = (match evIndexAddr P t (evO e x) (evO e i) with
    | some p => K p s
    | none => False) := by
  simp only [WOp, evPrim]
  cases evIndexAddr P t (evO e x) (evO e i) <;> rfl
theorem WOp_index (d : Option Tmp) (ty : TypeId) (pos : String) (aft : Array Edge) (g : Option (Nat × Bool)) (K : PV → Sto → Prop) (t : TypeId) (x i : Operand) : WOp P L ⟨d, .index t x i, ty, pos, aft, g⟩ K e s = (match evIndex P t (evO e x) (evO e i) with
    | some p => K p s
    | none => False) := by
  simp only [WOp, evPrim]
  cases evIndex P t (evO e x) (evO e i) <;> rfl
theorem WOp_extract (d : Option Tmp) (ty : TypeId) (pos : String) (aft : Array Edge) (g : Option (Nat × Bool)) (K : PV → Sto → Prop) (t : Operand) (ix : Nat) : WOp P L ⟨d, .extract t ix, ty, pos, aft, g⟩ K e s = (match evO e t with
    | .tup cs => (match cs[ix]? with
      | some p => K p s
      | none => False)
    | _ => False) := by
  simp only [WOp, evPrim]
  cases evO e t <;> simp only
  rename_i cs
  cases cs[ix]? <;> rfl
theorem WOp_nilCheck (d : Option Tmp) (ty : TypeId) (pos : String) (aft : Array Edge) (g : Option (Nat × Bool)) (K : PV → Sto → Prop) (x : Operand) : WOp P L ⟨d, .nilCheck x, ty, pos, aft, g⟩ K e s = (match evO e x with
    | .ptr id off => K (.ptr id off) s
    | .rptr cs => K (.rptr cs) s
    | _ => False) := by
  simp only [WOp, evPrim]
  cases evO e x <;> rfl
theorem WOp_binOp (d : Option Tmp) (ty : TypeId) (pos : String) (aft : Array Edge) (g : Option (Nat × Bool)) (K : PV → Sto → Prop) (op : BinOp) (t : TypeId) (x y : Operand) (yt : TypeId) : WOp P L ⟨d, .binOp op t x y yt, ty, pos, aft, g⟩ K e s = (match evBin P op t x y (evO e x) (evO e y) with
    | some p => K p s
    | none => match op with
      | .eql => (match evNil P t y (evO e x) with
        | some b => K (.lit (.bool b)) s
        | none => False)
      | .neq => (match evNil P t y (evO e x) with
        | some b => K (.lit (.bool !b)) s
        | none => False)
      | _ => False) := by
  simp only [WOp, evPrim]
  cases evBin P op t x y (evO e x) (evO e y) with
  | some p => rfl
  | none => cases op <;> simp only <;> cases evNil P t y (evO e x) <;> rfl
theorem WOp_call (d : Option Tmp) (ty : TypeId) (pos : String) (aft : Array Edge) (g : Option (Nat × Bool)) (K : PV → Sto → Prop) (f : Operand) (args : Array Operand) (ts : Array TypeId) : WOp P L ⟨d, .call ⟨.value f, args, ts⟩, ty, pos, aft, g⟩ K e s = (match evO e f with
    | .fn (.func h) a b => (staticF f || !L.wr h) = true ∧ TC P L h (a ++ args.toList.map (evO e) ++ b) s K
    | _ => False) := (rfl)
theorem WOp_bcall (d : Option Tmp) (ty : TypeId) (pos : String) (aft : Array Edge) (g : Option (Nat × Bool)) (K : PV → Sto → Prop) (b : Builtin) (args : Array Operand) (ts : Array TypeId) : WOp P L ⟨d, .call ⟨.builtin b, args, ts⟩, ty, pos, aft, g⟩ K e s = (match evBuiltinX P e s ty b ts args with
    | some (p, s') => K p s'
    | none => False) := (rfl)
theorem WG_nil (ds : List (Option Tmp)) (Q : Env → Sto → Prop) : WG P L ds [] Q e s = Q e s := (rfl)
theorem WG_cons (ds : List (Option Tmp)) (o : Oper) (os : List Oper) (Q : Env → Sto → Prop) : WG P L ds (o :: os) Q e s = (match o.guard with
    | none => WOp P L o (Hide (fun p s' => WG P L ds os Q (putE e o.dst p) s') ⟨⟩) e s
    | some (j, want) => match (ds[j]?).bind id with
      | some d => match e d with
        | .lit (.bool b) => if b = want then WOp P L o (Hide (fun p s' => WG P L ds os Q (putE e o.dst p) s') ⟨⟩) e s else WG P L ds os Q (putE e o.dst (.lit (.tuple #[]))) s
        | .lit (.tuple us) => if us.size = 0 then WG P L ds os Q (putE e o.dst (.lit (.tuple #[]))) s else False
        | _ => False
      | none => False) := (rfl)
theorem W_skip (Q : Qn) : W P L .skip Q e s = Q .normal e s := (rfl)
theorem W_label (l : Nat) (Q : Qn) : W P L (.label l) Q e s = Q .normal e s := (rfl)
theorem W_exit (l : Nat) (Q : Qn) : W P L (.exit l) Q e s = Q (.exit l) e s := (rfl)
theorem W_goto (l : Nat) (Q : Qn) : W P L (.goto l) Q e s = Q (.goto l) e s := (rfl)
theorem W_ret (Q : Qn) : W P L .ret Q e s = Q .ret e s := (rfl)
theorem W_region (id : Nat) (ops : Array Oper) (d : Bool) (Q : Qn) : W P L (.region id ops d) Q e s = WG P L (ops.toList.map (·.dst)) ops.toList (Q .normal) e s := (WG_eq ops _ _ _ _).symm
theorem W_seq (a b : Code) (Q : Qn) : W P L (.seq a b) Q e s = W P L a (Hide (fun x e s => match x with
    | .normal => W P L b Q e s
    | x => Q x e s) ⟨⟩) e s := (rfl)
theorem W_cond (x : Operand) (a b : Code) (Q : Qn) : W P L (.cond x a b) Q e s = match evO e x with
    | .lit (.bool t) => if t = true then W P L a Q e s else W P L b Q e s
    | _ => False := (rfl)
theorem W_block (id : Nat) (b : Code) (Q : Qn) : W P L (.block id b) Q e s = W P L b (Hide (fun x e s => match x with
    | .exit id' => if id' = id then Q .normal e s else Q (.exit id') e s
    | x => Q x e s) ⟨⟩) e s := (rfl)
theorem W_loop (b : Code) (Q : Qn) : W P L (.loop b) Q e s = TL P L b Q e s := (rfl)
theorem W_scope (b : Code) (Q : Qn) : W P L (.scope b) Q e s = TS P L b b Q e s := (rfl)
end
attribute [simp] hide3 hide2 WG_nil WG_cons W_skip W_label W_exit W_goto W_ret W_region W_seq W_cond W_block W_loop W_scope WOp_move WOp_assign WOp_pick WOp_alloc WOp_box WOp_build WOp_buildSlice WOp_load WOp_store WOp_binOp WOp_unOp WOp_convert WOp_makeFunc WOp_slice WOp_fieldAddr WOp_field WOp_indexAddr WOp_index WOp_extract WOp_nilCheck WOp_call WOp_bcall upd_apply putE_some putE_none evO_tmp evO_func evO_int evO_bool evO_str evO_nil evO_agg ofCell_int ofCell_bool ofCell_str ofCell_nil initEnv_apply
  evBin_add evBin_sub evBin_mul evBin_lss evBin_leq evBin_gtr evBin_geq evBin_eql evBin_neq evBin_seql evBin_sneq evUn_not evLoad_rptr evLoad_U evBox moved_ptr moved_rptr evB_append
  push_next set_next push_get set_get s0_next s0_get sF_next sF_get sF_own push_own set_own flag_own flag_next flag_get flag_flag flag_self isE lenP cellsOf_agg cellsOf_int cellsOf_bool cellsOf_str cellsOf_slice cellsOf_ptr cellsOf_fn
  elemsOk_nil elemsOk_cons elemsOk_append elemsOk_map elemsSolid_nil elemsSolid_cons elemsSolid_map normL_map cleanL_map normL_append cleanL_append
  evBin_S evBin_O evBin_F cells_agg cells_lit cells_any cells_ptr cells_rptr cells_slice cells_oslice cells_fn cells_map solid_int solid_bool solid_str solid_nilp solid_nilf solid_ptr solid_rptr solid_slice solid_oslice solid_fn solid_map solid_any
  PV.norm PV.clean normL cleanL resultsE resultOf writeAt evElems fillP staticF bnd bounds3
  evSliceX_S evSliceX_L evSliceX_P evSliceX_R evBX_append evBX_len evBX_copy evBX_copy1 evBX_max evBX_min evBX_real evBX_imag evBX_complex isO frzs frzL frz1_P frz1_L frz1_any frz1_S frz1_A frz1_R frz1_F frz_L frz_any frz_P frz_S frz_A frz_R frz_O frz_F
end Go.Pv
