/- What the types' layouts are, in numbers: closed facts. -/
import Derived.Test.YtccjfglhoghbpaaPvSim
import Derived.Test.YtccjfglhoghbpaaProg
import Derived.KernelRfl
namespace Go.Proofs.Try
open Go Go.Pv
theorem lay0 : lay Try.prog 0 = some (false, 1) := by kernel_rfl
@[simp] theorem ld0 : ∀ (cs : List PV) (off : Nat), loadFrom Try.prog 0 cs off = cs[off]? := loadFrom_one lay0
@[simp] theorem st0 : ∀ (s : Sto) (id off : Nat) (q : PV), evStore Try.prog s 0 (.ptr id off) q = match cellsOf q with | some xs => (match s.get id with | some (.cells cs) => if xs.length = 1 ∧ xs.all PV.solid = true ∧ off + xs.length ≤ cs.length then some (s.set id (some (.cells (writeAt cs off xs)))) else none | _ => none) | none => none := evStore_U lay0
theorem lay1 : lay Try.prog 1 = some (false, 1) := by kernel_rfl
@[simp] theorem ld1 : ∀ (cs : List PV) (off : Nat), loadFrom Try.prog 1 cs off = cs[off]? := loadFrom_one lay1
@[simp] theorem st1 : ∀ (s : Sto) (id off : Nat) (q : PV), evStore Try.prog s 1 (.ptr id off) q = match cellsOf q with | some xs => (match s.get id with | some (.cells cs) => if xs.length = 1 ∧ xs.all PV.solid = true ∧ off + xs.length ≤ cs.length then some (s.set id (some (.cells (writeAt cs off xs)))) else none | _ => none) | none => none := evStore_U lay1
theorem alc1 : alc Try.prog 1 = some [.lit .nilFunc] := by kernel_rfl
@[simp] theorem al1 : ∀ (s : Sto), evAlloc Try.prog s 1 = some (.ptr s.next 0, s.push (.cells [.lit .nilFunc])) := evAlloc_eq alc1
theorem lay2 : lay Try.prog 2 = some (false, 1) := by kernel_rfl
@[simp] theorem ld2 : ∀ (cs : List PV) (off : Nat), loadFrom Try.prog 2 cs off = cs[off]? := loadFrom_one lay2
@[simp] theorem st2 : ∀ (s : Sto) (id off : Nat) (q : PV), evStore Try.prog s 2 (.ptr id off) q = match cellsOf q with | some xs => (match s.get id with | some (.cells cs) => if xs.length = 1 ∧ xs.all PV.solid = true ∧ off + xs.length ≤ cs.length then some (s.set id (some (.cells (writeAt cs off xs)))) else none | _ => none) | none => none := evStore_U lay2
theorem int2 : Try.prog.underlying 2 = some (.int .i64) := by kernel_rfl
theorem alc2 : alc Try.prog 2 = some [.lit (.int .i64 (0))] := by kernel_rfl
@[simp] theorem al2 : ∀ (s : Sto), evAlloc Try.prog s 2 = some (.ptr s.next 0, s.push (.cells [.lit (.int .i64 (0))])) := evAlloc_eq alc2
theorem lay3 : lay Try.prog 3 = some (false, 1) := by kernel_rfl
@[simp] theorem ld3 : ∀ (cs : List PV) (off : Nat), loadFrom Try.prog 3 cs off = cs[off]? := loadFrom_one lay3
@[simp] theorem st3 : ∀ (s : Sto) (id off : Nat) (q : PV), evStore Try.prog s 3 (.ptr id off) q = match cellsOf q with | some xs => (match s.get id with | some (.cells cs) => if xs.length = 1 ∧ xs.all PV.solid = true ∧ off + xs.length ≤ cs.length then some (s.set id (some (.cells (writeAt cs off xs)))) else none | _ => none) | none => none := evStore_U lay3
theorem int3 : Try.prog.underlying 3 = some (.int .i64) := by kernel_rfl
theorem alc3 : alc Try.prog 3 = some [.lit (.int .i64 (0))] := by kernel_rfl
@[simp] theorem al3 : ∀ (s : Sto), evAlloc Try.prog s 3 = some (.ptr s.next 0, s.push (.cells [.lit (.int .i64 (0))])) := evAlloc_eq alc3
theorem lay4 : lay Try.prog 4 = some (false, 1) := by kernel_rfl
@[simp] theorem ld4 : ∀ (cs : List PV) (off : Nat), loadFrom Try.prog 4 cs off = cs[off]? := loadFrom_one lay4
@[simp] theorem st4 : ∀ (s : Sto) (id off : Nat) (q : PV), evStore Try.prog s 4 (.ptr id off) q = match cellsOf q with | some xs => (match s.get id with | some (.cells cs) => if xs.length = 1 ∧ xs.all PV.solid = true ∧ off + xs.length ≤ cs.length then some (s.set id (some (.cells (writeAt cs off xs)))) else none | _ => none) | none => none := evStore_U lay4
theorem alc4 : alc Try.prog 4 = some [.lit (.bool false)] := by kernel_rfl
@[simp] theorem al4 : ∀ (s : Sto), evAlloc Try.prog s 4 = some (.ptr s.next 0, s.push (.cells [.lit (.bool false)])) := evAlloc_eq alc4
theorem lay5 : lay Try.prog 5 = some (false, 1) := by kernel_rfl
@[simp] theorem ld5 : ∀ (cs : List PV) (off : Nat), loadFrom Try.prog 5 cs off = cs[off]? := loadFrom_one lay5
@[simp] theorem st5 : ∀ (s : Sto) (id off : Nat) (q : PV), evStore Try.prog s 5 (.ptr id off) q = match cellsOf q with | some xs => (match s.get id with | some (.cells cs) => if xs.length = 1 ∧ xs.all PV.solid = true ∧ off + xs.length ≤ cs.length then some (s.set id (some (.cells (writeAt cs off xs)))) else none | _ => none) | none => none := evStore_U lay5
theorem alc5 : alc Try.prog 5 = some [.lit (.int .u8 (0))] := by kernel_rfl
@[simp] theorem al5 : ∀ (s : Sto), evAlloc Try.prog s 5 = some (.ptr s.next 0, s.push (.cells [.lit (.int .u8 (0))])) := evAlloc_eq alc5
theorem lay6 : lay Try.prog 6 = some (false, 1) := by kernel_rfl
@[simp] theorem ld6 : ∀ (cs : List PV) (off : Nat), loadFrom Try.prog 6 cs off = cs[off]? := loadFrom_one lay6
@[simp] theorem st6 : ∀ (s : Sto) (id off : Nat) (q : PV), evStore Try.prog s 6 (.ptr id off) q = match cellsOf q with | some xs => (match s.get id with | some (.cells cs) => if xs.length = 1 ∧ xs.all PV.solid = true ∧ off + xs.length ≤ cs.length then some (s.set id (some (.cells (writeAt cs off xs)))) else none | _ => none) | none => none := evStore_U lay6
theorem alc6 : alc Try.prog 6 = some [.lit (.int .u8 (0))] := by kernel_rfl
@[simp] theorem al6 : ∀ (s : Sto), evAlloc Try.prog s 6 = some (.ptr s.next 0, s.push (.cells [.lit (.int .u8 (0))])) := evAlloc_eq alc6
theorem lay7 : lay Try.prog 7 = some (true, 4) := by kernel_rfl
@[simp] theorem ld7 : ∀ (cs : List PV) (off : Nat), loadFrom Try.prog 7 cs off = if off + 4 ≤ cs.length then some (.agg ((cs.drop off).take 4)) else none := loadFrom_A lay7
@[simp] theorem st7 : ∀ (s : Sto) (id off : Nat) (q : PV), evStore Try.prog s 7 (.ptr id off) q = match cellsOf q with | some xs => (match s.get id with | some (.cells cs) => if xs.length = 4 ∧ xs.all PV.solid = true ∧ off + xs.length ≤ cs.length then some (s.set id (some (.cells (writeAt cs off xs)))) else none | _ => none) | none => none := evStore_U lay7
theorem foff7_0 : foff Try.prog 7 0 = some (0, 1, 2) := by kernel_rfl
@[simp] theorem fp7_0 : ∀ (id off : Nat), evFieldAddr Try.prog 7 (.ptr id off) 0 = some (.ptr id (off + 0)) := evFieldAddr_ptr foff7_0
@[simp] theorem fr7_0 : ∀ (cs : List PV), evFieldAddr Try.prog 7 (.rptr cs) 0 = some (.rptr (cs.drop 0)) := evFieldAddr_rptr foff7_0
@[simp] theorem fa7_0 : ∀ (cs : List PV), evField Try.prog 7 (.agg cs) 0 = loadFrom Try.prog 2 cs 0 := evField_agg foff7_0
theorem foff7_1 : foff Try.prog 7 1 = some (1, 1, 3) := by kernel_rfl
@[simp] theorem fp7_1 : ∀ (id off : Nat), evFieldAddr Try.prog 7 (.ptr id off) 1 = some (.ptr id (off + 1)) := evFieldAddr_ptr foff7_1
@[simp] theorem fr7_1 : ∀ (cs : List PV), evFieldAddr Try.prog 7 (.rptr cs) 1 = some (.rptr (cs.drop 1)) := evFieldAddr_rptr foff7_1
@[simp] theorem fa7_1 : ∀ (cs : List PV), evField Try.prog 7 (.agg cs) 1 = loadFrom Try.prog 3 cs 1 := evField_agg foff7_1
theorem foff7_2 : foff Try.prog 7 2 = some (2, 1, 4) := by kernel_rfl
@[simp] theorem fp7_2 : ∀ (id off : Nat), evFieldAddr Try.prog 7 (.ptr id off) 2 = some (.ptr id (off + 2)) := evFieldAddr_ptr foff7_2
@[simp] theorem fr7_2 : ∀ (cs : List PV), evFieldAddr Try.prog 7 (.rptr cs) 2 = some (.rptr (cs.drop 2)) := evFieldAddr_rptr foff7_2
@[simp] theorem fa7_2 : ∀ (cs : List PV), evField Try.prog 7 (.agg cs) 2 = loadFrom Try.prog 4 cs 2 := evField_agg foff7_2
theorem foff7_3 : foff Try.prog 7 3 = some (3, 1, 6) := by kernel_rfl
@[simp] theorem fp7_3 : ∀ (id off : Nat), evFieldAddr Try.prog 7 (.ptr id off) 3 = some (.ptr id (off + 3)) := evFieldAddr_ptr foff7_3
@[simp] theorem fr7_3 : ∀ (cs : List PV), evFieldAddr Try.prog 7 (.rptr cs) 3 = some (.rptr (cs.drop 3)) := evFieldAddr_rptr foff7_3
@[simp] theorem fa7_3 : ∀ (cs : List PV), evField Try.prog 7 (.agg cs) 3 = loadFrom Try.prog 6 cs 3 := evField_agg foff7_3
theorem alc7 : alc Try.prog 7 = some [.lit (.int .i64 (0)), .lit (.int .i64 (0)), .lit (.bool false), .lit (.int .u8 (0))] := by kernel_rfl
@[simp] theorem al7 : ∀ (s : Sto), evAlloc Try.prog s 7 = some (.ptr s.next 0, s.push (.cells [.lit (.int .i64 (0)), .lit (.int .i64 (0)), .lit (.bool false), .lit (.int .u8 (0))])) := evAlloc_eq alc7
theorem bld7 : bld Try.prog 7 = some ([.lit (.int .i64 (0)), .lit (.int .i64 (0)), .lit (.bool false), .lit (.int .u8 (0))], [(0, 1), (1, 1), (2, 1), (3, 1)]) := by kernel_rfl
@[simp] theorem bd7 : ∀ (e : Env) (parts : Array (Nat × Operand)), evBuild Try.prog e 7 parts = (fillP ((([.lit (.int .i64 (0)), .lit (.int .i64 (0)), .lit (.bool false), .lit (.int .u8 (0))], [(0, 1), (1, 1), (2, 1), (3, 1)]) : List PV × List (Nat × Nat)).2[·]?) e (([.lit (.int .i64 (0)), .lit (.int .i64 (0)), .lit (.bool false), .lit (.int .u8 (0))], [(0, 1), (1, 1), (2, 1), (3, 1)]) : List PV × List (Nat × Nat)).1 parts.toList).map .agg := evBuild_eq bld7
theorem lay8 : lay Try.prog 8 = some (true, 4) := by kernel_rfl
@[simp] theorem ld8 : ∀ (cs : List PV) (off : Nat), loadFrom Try.prog 8 cs off = if off + 4 ≤ cs.length then some (.agg ((cs.drop off).take 4)) else none := loadFrom_A lay8
@[simp] theorem st8 : ∀ (s : Sto) (id off : Nat) (q : PV), evStore Try.prog s 8 (.ptr id off) q = match cellsOf q with | some xs => (match s.get id with | some (.cells cs) => if xs.length = 4 ∧ xs.all PV.solid = true ∧ off + xs.length ≤ cs.length then some (s.set id (some (.cells (writeAt cs off xs)))) else none | _ => none) | none => none := evStore_U lay8
theorem foff8_0 : foff Try.prog 8 0 = some (0, 1, 2) := by kernel_rfl
@[simp] theorem fp8_0 : ∀ (id off : Nat), evFieldAddr Try.prog 8 (.ptr id off) 0 = some (.ptr id (off + 0)) := evFieldAddr_ptr foff8_0
@[simp] theorem fr8_0 : ∀ (cs : List PV), evFieldAddr Try.prog 8 (.rptr cs) 0 = some (.rptr (cs.drop 0)) := evFieldAddr_rptr foff8_0
@[simp] theorem fa8_0 : ∀ (cs : List PV), evField Try.prog 8 (.agg cs) 0 = loadFrom Try.prog 2 cs 0 := evField_agg foff8_0
theorem foff8_1 : foff Try.prog 8 1 = some (1, 1, 3) := by kernel_rfl
@[simp] theorem fp8_1 : ∀ (id off : Nat), evFieldAddr Try.prog 8 (.ptr id off) 1 = some (.ptr id (off + 1)) := evFieldAddr_ptr foff8_1
@[simp] theorem fr8_1 : ∀ (cs : List PV), evFieldAddr Try.prog 8 (.rptr cs) 1 = some (.rptr (cs.drop 1)) := evFieldAddr_rptr foff8_1
@[simp] theorem fa8_1 : ∀ (cs : List PV), evField Try.prog 8 (.agg cs) 1 = loadFrom Try.prog 3 cs 1 := evField_agg foff8_1
theorem foff8_2 : foff Try.prog 8 2 = some (2, 1, 4) := by kernel_rfl
@[simp] theorem fp8_2 : ∀ (id off : Nat), evFieldAddr Try.prog 8 (.ptr id off) 2 = some (.ptr id (off + 2)) := evFieldAddr_ptr foff8_2
@[simp] theorem fr8_2 : ∀ (cs : List PV), evFieldAddr Try.prog 8 (.rptr cs) 2 = some (.rptr (cs.drop 2)) := evFieldAddr_rptr foff8_2
@[simp] theorem fa8_2 : ∀ (cs : List PV), evField Try.prog 8 (.agg cs) 2 = loadFrom Try.prog 4 cs 2 := evField_agg foff8_2
theorem foff8_3 : foff Try.prog 8 3 = some (3, 1, 6) := by kernel_rfl
@[simp] theorem fp8_3 : ∀ (id off : Nat), evFieldAddr Try.prog 8 (.ptr id off) 3 = some (.ptr id (off + 3)) := evFieldAddr_ptr foff8_3
@[simp] theorem fr8_3 : ∀ (cs : List PV), evFieldAddr Try.prog 8 (.rptr cs) 3 = some (.rptr (cs.drop 3)) := evFieldAddr_rptr foff8_3
@[simp] theorem fa8_3 : ∀ (cs : List PV), evField Try.prog 8 (.agg cs) 3 = loadFrom Try.prog 6 cs 3 := evField_agg foff8_3
theorem alc8 : alc Try.prog 8 = some [.lit (.int .i64 (0)), .lit (.int .i64 (0)), .lit (.bool false), .lit (.int .u8 (0))] := by kernel_rfl
@[simp] theorem al8 : ∀ (s : Sto), evAlloc Try.prog s 8 = some (.ptr s.next 0, s.push (.cells [.lit (.int .i64 (0)), .lit (.int .i64 (0)), .lit (.bool false), .lit (.int .u8 (0))])) := evAlloc_eq alc8
theorem bld8 : bld Try.prog 8 = some ([.lit (.int .i64 (0)), .lit (.int .i64 (0)), .lit (.bool false), .lit (.int .u8 (0))], [(0, 1), (1, 1), (2, 1), (3, 1)]) := by kernel_rfl
@[simp] theorem bd8 : ∀ (e : Env) (parts : Array (Nat × Operand)), evBuild Try.prog e 8 parts = (fillP ((([.lit (.int .i64 (0)), .lit (.int .i64 (0)), .lit (.bool false), .lit (.int .u8 (0))], [(0, 1), (1, 1), (2, 1), (3, 1)]) : List PV × List (Nat × Nat)).2[·]?) e (([.lit (.int .i64 (0)), .lit (.int .i64 (0)), .lit (.bool false), .lit (.int .u8 (0))], [(0, 1), (1, 1), (2, 1), (3, 1)]) : List PV × List (Nat × Nat)).1 parts.toList).map .agg := evBuild_eq bld8
theorem lay9 : lay Try.prog 9 = some (false, 1) := by kernel_rfl
@[simp] theorem ld9 : ∀ (cs : List PV) (off : Nat), loadFrom Try.prog 9 cs off = cs[off]? := loadFrom_one lay9
@[simp] theorem st9 : ∀ (s : Sto) (id off : Nat) (q : PV), evStore Try.prog s 9 (.ptr id off) q = match cellsOf q with | some xs => (match s.get id with | some (.cells cs) => if xs.length = 1 ∧ xs.all PV.solid = true ∧ off + xs.length ≤ cs.length then some (s.set id (some (.cells (writeAt cs off xs)))) else none | _ => none) | none => none := evStore_U lay9
theorem str9 : Try.prog.underlying 9 = some .string := by kernel_rfl
@[simp] theorem slen9 : ∀ (e : Env) (s : Sto) (ty : TypeId) (x : Operand) (b : ByteArray), evO e x = .lit (.string b) → evBuiltin Try.prog e s ty .len #[9] #[x] = some (.lit (.int .i64 b.size), s) := fun e s ty x b hx => evB_len_str s ty str9 hx
@[simp] theorem ssl9 : ∀ (b : ByteArray) (lo hi : Option PV), evSlice Try.prog 9 (.lit (.string b)) lo hi none = match bounds3 b.size b.size lo hi none with | some (l, h, _) => some (.lit (.string (b.extract l h))) | _ => none := evSlice_str str9
theorem alc9 : alc Try.prog 9 = some [.lit (.string ⟨#[]⟩)] := by kernel_rfl
@[simp] theorem al9 : ∀ (s : Sto), evAlloc Try.prog s 9 = some (.ptr s.next 0, s.push (.cells [.lit (.string ⟨#[]⟩)])) := evAlloc_eq alc9
theorem lay10 : lay Try.prog 10 = some (false, 1) := by kernel_rfl
@[simp] theorem ld10 : ∀ (cs : List PV) (off : Nat), loadFrom Try.prog 10 cs off = cs[off]? := loadFrom_one lay10
@[simp] theorem st10 : ∀ (s : Sto) (id off : Nat) (q : PV), evStore Try.prog s 10 (.ptr id off) q = match cellsOf q with | some xs => (match s.get id with | some (.cells cs) => if xs.length = 1 ∧ xs.all PV.solid = true ∧ off + xs.length ≤ cs.length then some (s.set id (some (.cells (writeAt cs off xs)))) else none | _ => none) | none => none := evStore_U lay10
theorem str10 : Try.prog.underlying 10 = some .string := by kernel_rfl
@[simp] theorem slen10 : ∀ (e : Env) (s : Sto) (ty : TypeId) (x : Operand) (b : ByteArray), evO e x = .lit (.string b) → evBuiltin Try.prog e s ty .len #[10] #[x] = some (.lit (.int .i64 b.size), s) := fun e s ty x b hx => evB_len_str s ty str10 hx
@[simp] theorem ssl10 : ∀ (b : ByteArray) (lo hi : Option PV), evSlice Try.prog 10 (.lit (.string b)) lo hi none = match bounds3 b.size b.size lo hi none with | some (l, h, _) => some (.lit (.string (b.extract l h))) | _ => none := evSlice_str str10
theorem alc10 : alc Try.prog 10 = some [.lit (.string ⟨#[]⟩)] := by kernel_rfl
@[simp] theorem al10 : ∀ (s : Sto), evAlloc Try.prog s 10 = some (.ptr s.next 0, s.push (.cells [.lit (.string ⟨#[]⟩)])) := evAlloc_eq alc10
theorem lay11 : lay Try.prog 11 = some (false, 1) := by kernel_rfl
@[simp] theorem ld11 : ∀ (cs : List PV) (off : Nat), loadFrom Try.prog 11 cs off = cs[off]? := loadFrom_one lay11
@[simp] theorem st11 : ∀ (s : Sto) (id off : Nat) (q : PV), evStore Try.prog s 11 (.ptr id off) q = match cellsOf q with | some xs => (match s.get id with | some (.cells cs) => if xs.length = 1 ∧ xs.all PV.solid = true ∧ off + xs.length ≤ cs.length then some (s.set id (some (.cells (writeAt cs off xs)))) else none | _ => none) | none => none := evStore_U lay11
theorem str11 : Try.prog.underlying 11 = some .string := by kernel_rfl
@[simp] theorem slen11 : ∀ (e : Env) (s : Sto) (ty : TypeId) (x : Operand) (b : ByteArray), evO e x = .lit (.string b) → evBuiltin Try.prog e s ty .len #[11] #[x] = some (.lit (.int .i64 b.size), s) := fun e s ty x b hx => evB_len_str s ty str11 hx
@[simp] theorem ssl11 : ∀ (b : ByteArray) (lo hi : Option PV), evSlice Try.prog 11 (.lit (.string b)) lo hi none = match bounds3 b.size b.size lo hi none with | some (l, h, _) => some (.lit (.string (b.extract l h))) | _ => none := evSlice_str str11
theorem alc11 : alc Try.prog 11 = some [.lit (.string ⟨#[]⟩)] := by kernel_rfl
@[simp] theorem al11 : ∀ (s : Sto), evAlloc Try.prog s 11 = some (.ptr s.next 0, s.push (.cells [.lit (.string ⟨#[]⟩)])) := evAlloc_eq alc11
theorem lay12 : lay Try.prog 12 = some (false, 1) := by kernel_rfl
@[simp] theorem ld12 : ∀ (cs : List PV) (off : Nat), loadFrom Try.prog 12 cs off = cs[off]? := loadFrom_one lay12
@[simp] theorem st12 : ∀ (s : Sto) (id off : Nat) (q : PV), evStore Try.prog s 12 (.ptr id off) q = match cellsOf q with | some xs => (match s.get id with | some (.cells cs) => if xs.length = 1 ∧ xs.all PV.solid = true ∧ off + xs.length ≤ cs.length then some (s.set id (some (.cells (writeAt cs off xs)))) else none | _ => none) | none => none := evStore_U lay12
theorem alc12 : alc Try.prog 12 = some [.lit (.int .u64 (0))] := by kernel_rfl
@[simp] theorem al12 : ∀ (s : Sto), evAlloc Try.prog s 12 = some (.ptr s.next 0, s.push (.cells [.lit (.int .u64 (0))])) := evAlloc_eq alc12
theorem lay13 : lay Try.prog 13 = some (true, 2) := by kernel_rfl
@[simp] theorem ld13 : ∀ (cs : List PV) (off : Nat), loadFrom Try.prog 13 cs off = if off + 2 ≤ cs.length then some (.agg ((cs.drop off).take 2)) else none := loadFrom_A lay13
@[simp] theorem st13 : ∀ (s : Sto) (id off : Nat) (q : PV), evStore Try.prog s 13 (.ptr id off) q = match cellsOf q with | some xs => (match s.get id with | some (.cells cs) => if xs.length = 2 ∧ xs.all PV.solid = true ∧ off + xs.length ≤ cs.length then some (s.set id (some (.cells (writeAt cs off xs)))) else none | _ => none) | none => none := evStore_U lay13
theorem foff13_0 : foff Try.prog 13 0 = some (0, 1, 9) := by kernel_rfl
@[simp] theorem fp13_0 : ∀ (id off : Nat), evFieldAddr Try.prog 13 (.ptr id off) 0 = some (.ptr id (off + 0)) := evFieldAddr_ptr foff13_0
@[simp] theorem fr13_0 : ∀ (cs : List PV), evFieldAddr Try.prog 13 (.rptr cs) 0 = some (.rptr (cs.drop 0)) := evFieldAddr_rptr foff13_0
@[simp] theorem fa13_0 : ∀ (cs : List PV), evField Try.prog 13 (.agg cs) 0 = loadFrom Try.prog 9 cs 0 := evField_agg foff13_0
theorem foff13_1 : foff Try.prog 13 1 = some (1, 1, 12) := by kernel_rfl
@[simp] theorem fp13_1 : ∀ (id off : Nat), evFieldAddr Try.prog 13 (.ptr id off) 1 = some (.ptr id (off + 1)) := evFieldAddr_ptr foff13_1
@[simp] theorem fr13_1 : ∀ (cs : List PV), evFieldAddr Try.prog 13 (.rptr cs) 1 = some (.rptr (cs.drop 1)) := evFieldAddr_rptr foff13_1
@[simp] theorem fa13_1 : ∀ (cs : List PV), evField Try.prog 13 (.agg cs) 1 = loadFrom Try.prog 12 cs 1 := evField_agg foff13_1
theorem alc13 : alc Try.prog 13 = some [.lit (.string ⟨#[]⟩), .lit (.int .u64 (0))] := by kernel_rfl
@[simp] theorem al13 : ∀ (s : Sto), evAlloc Try.prog s 13 = some (.ptr s.next 0, s.push (.cells [.lit (.string ⟨#[]⟩), .lit (.int .u64 (0))])) := evAlloc_eq alc13
theorem bld13 : bld Try.prog 13 = some ([.lit (.string ⟨#[]⟩), .lit (.int .u64 (0))], [(0, 1), (1, 1)]) := by kernel_rfl
@[simp] theorem bd13 : ∀ (e : Env) (parts : Array (Nat × Operand)), evBuild Try.prog e 13 parts = (fillP ((([.lit (.string ⟨#[]⟩), .lit (.int .u64 (0))], [(0, 1), (1, 1)]) : List PV × List (Nat × Nat)).2[·]?) e (([.lit (.string ⟨#[]⟩), .lit (.int .u64 (0))], [(0, 1), (1, 1)]) : List PV × List (Nat × Nat)).1 parts.toList).map .agg := evBuild_eq bld13
theorem lay14 : lay Try.prog 14 = some (true, 2) := by kernel_rfl
@[simp] theorem ld14 : ∀ (cs : List PV) (off : Nat), loadFrom Try.prog 14 cs off = if off + 2 ≤ cs.length then some (.agg ((cs.drop off).take 2)) else none := loadFrom_A lay14
@[simp] theorem st14 : ∀ (s : Sto) (id off : Nat) (q : PV), evStore Try.prog s 14 (.ptr id off) q = match cellsOf q with | some xs => (match s.get id with | some (.cells cs) => if xs.length = 2 ∧ xs.all PV.solid = true ∧ off + xs.length ≤ cs.length then some (s.set id (some (.cells (writeAt cs off xs)))) else none | _ => none) | none => none := evStore_U lay14
theorem foff14_0 : foff Try.prog 14 0 = some (0, 1, 9) := by kernel_rfl
@[simp] theorem fp14_0 : ∀ (id off : Nat), evFieldAddr Try.prog 14 (.ptr id off) 0 = some (.ptr id (off + 0)) := evFieldAddr_ptr foff14_0
@[simp] theorem fr14_0 : ∀ (cs : List PV), evFieldAddr Try.prog 14 (.rptr cs) 0 = some (.rptr (cs.drop 0)) := evFieldAddr_rptr foff14_0
@[simp] theorem fa14_0 : ∀ (cs : List PV), evField Try.prog 14 (.agg cs) 0 = loadFrom Try.prog 9 cs 0 := evField_agg foff14_0
theorem foff14_1 : foff Try.prog 14 1 = some (1, 1, 12) := by kernel_rfl
@[simp] theorem fp14_1 : ∀ (id off : Nat), evFieldAddr Try.prog 14 (.ptr id off) 1 = some (.ptr id (off + 1)) := evFieldAddr_ptr foff14_1
@[simp] theorem fr14_1 : ∀ (cs : List PV), evFieldAddr Try.prog 14 (.rptr cs) 1 = some (.rptr (cs.drop 1)) := evFieldAddr_rptr foff14_1
@[simp] theorem fa14_1 : ∀ (cs : List PV), evField Try.prog 14 (.agg cs) 1 = loadFrom Try.prog 12 cs 1 := evField_agg foff14_1
theorem alc14 : alc Try.prog 14 = some [.lit (.string ⟨#[]⟩), .lit (.int .u64 (0))] := by kernel_rfl
@[simp] theorem al14 : ∀ (s : Sto), evAlloc Try.prog s 14 = some (.ptr s.next 0, s.push (.cells [.lit (.string ⟨#[]⟩), .lit (.int .u64 (0))])) := evAlloc_eq alc14
theorem bld14 : bld Try.prog 14 = some ([.lit (.string ⟨#[]⟩), .lit (.int .u64 (0))], [(0, 1), (1, 1)]) := by kernel_rfl
@[simp] theorem bd14 : ∀ (e : Env) (parts : Array (Nat × Operand)), evBuild Try.prog e 14 parts = (fillP ((([.lit (.string ⟨#[]⟩), .lit (.int .u64 (0))], [(0, 1), (1, 1)]) : List PV × List (Nat × Nat)).2[·]?) e (([.lit (.string ⟨#[]⟩), .lit (.int .u64 (0))], [(0, 1), (1, 1)]) : List PV × List (Nat × Nat)).1 parts.toList).map .agg := evBuild_eq bld14
theorem lay15 : lay Try.prog 15 = some (false, 1) := by kernel_rfl
@[simp] theorem ld15 : ∀ (cs : List PV) (off : Nat), loadFrom Try.prog 15 cs off = cs[off]? := loadFrom_one lay15
@[simp] theorem st15 : ∀ (s : Sto) (id off : Nat) (q : PV), evStore Try.prog s 15 (.ptr id off) q = match cellsOf q with | some xs => (match s.get id with | some (.cells cs) => if xs.length = 1 ∧ xs.all PV.solid = true ∧ off + xs.length ≤ cs.length then some (s.set id (some (.cells (writeAt cs off xs)))) else none | _ => none) | none => none := evStore_U lay15
theorem alc15 : alc Try.prog 15 = some [.lit (.pointer none)] := by kernel_rfl
@[simp] theorem al15 : ∀ (s : Sto), evAlloc Try.prog s 15 = some (.ptr s.next 0, s.push (.cells [.lit (.pointer none)])) := evAlloc_eq alc15
theorem lay16 : lay Try.prog 16 = some (false, 1) := by kernel_rfl
@[simp] theorem ld16 : ∀ (cs : List PV) (off : Nat), loadFrom Try.prog 16 cs off = cs[off]? := loadFrom_one lay16
@[simp] theorem st16 : ∀ (s : Sto) (id off : Nat) (q : PV), evStore Try.prog s 16 (.ptr id off) q = match cellsOf q with | some xs => (match s.get id with | some (.cells cs) => if xs.length = 1 ∧ xs.all PV.solid = true ∧ off + xs.length ≤ cs.length then some (s.set id (some (.cells (writeAt cs off xs)))) else none | _ => none) | none => none := evStore_U lay16
theorem alc16 : alc Try.prog 16 = some [.lit (.pointer none)] := by kernel_rfl
@[simp] theorem al16 : ∀ (s : Sto), evAlloc Try.prog s 16 = some (.ptr s.next 0, s.push (.cells [.lit (.pointer none)])) := evAlloc_eq alc16
theorem lay17 : lay Try.prog 17 = some (false, 1) := by kernel_rfl
@[simp] theorem ld17 : ∀ (cs : List PV) (off : Nat), loadFrom Try.prog 17 cs off = cs[off]? := loadFrom_one lay17
@[simp] theorem st17 : ∀ (s : Sto) (id off : Nat) (q : PV), evStore Try.prog s 17 (.ptr id off) q = match cellsOf q with | some xs => (match s.get id with | some (.cells cs) => if xs.length = 1 ∧ xs.all PV.solid = true ∧ off + xs.length ≤ cs.length then some (s.set id (some (.cells (writeAt cs off xs)))) else none | _ => none) | none => none := evStore_U lay17
theorem alc17 : alc Try.prog 17 = some [.lit (.pointer none)] := by kernel_rfl
@[simp] theorem al17 : ∀ (s : Sto), evAlloc Try.prog s 17 = some (.ptr s.next 0, s.push (.cells [.lit (.pointer none)])) := evAlloc_eq alc17
theorem lay18 : lay Try.prog 18 = some (true, 1) := by kernel_rfl
@[simp] theorem ld18 : ∀ (cs : List PV) (off : Nat), loadFrom Try.prog 18 cs off = if off + 1 ≤ cs.length then some (.agg ((cs.drop off).take 1)) else none := loadFrom_A lay18
@[simp] theorem st18 : ∀ (s : Sto) (id off : Nat) (q : PV), evStore Try.prog s 18 (.ptr id off) q = match cellsOf q with | some xs => (match s.get id with | some (.cells cs) => if xs.length = 1 ∧ xs.all PV.solid = true ∧ off + xs.length ≤ cs.length then some (s.set id (some (.cells (writeAt cs off xs)))) else none | _ => none) | none => none := evStore_U lay18
theorem foff18_0 : foff Try.prog 18 0 = some (0, 1, 17) := by kernel_rfl
@[simp] theorem fp18_0 : ∀ (id off : Nat), evFieldAddr Try.prog 18 (.ptr id off) 0 = some (.ptr id (off + 0)) := evFieldAddr_ptr foff18_0
@[simp] theorem fr18_0 : ∀ (cs : List PV), evFieldAddr Try.prog 18 (.rptr cs) 0 = some (.rptr (cs.drop 0)) := evFieldAddr_rptr foff18_0
@[simp] theorem fa18_0 : ∀ (cs : List PV), evField Try.prog 18 (.agg cs) 0 = loadFrom Try.prog 17 cs 0 := evField_agg foff18_0
theorem alc18 : alc Try.prog 18 = some [.lit (.pointer none)] := by kernel_rfl
@[simp] theorem al18 : ∀ (s : Sto), evAlloc Try.prog s 18 = some (.ptr s.next 0, s.push (.cells [.lit (.pointer none)])) := evAlloc_eq alc18
theorem bld18 : bld Try.prog 18 = some ([.lit (.pointer none)], [(0, 1)]) := by kernel_rfl
@[simp] theorem bd18 : ∀ (e : Env) (parts : Array (Nat × Operand)), evBuild Try.prog e 18 parts = (fillP ((([.lit (.pointer none)], [(0, 1)]) : List PV × List (Nat × Nat)).2[·]?) e (([.lit (.pointer none)], [(0, 1)]) : List PV × List (Nat × Nat)).1 parts.toList).map .agg := evBuild_eq bld18
theorem lay19 : lay Try.prog 19 = some (true, 1) := by kernel_rfl
@[simp] theorem ld19 : ∀ (cs : List PV) (off : Nat), loadFrom Try.prog 19 cs off = if off + 1 ≤ cs.length then some (.agg ((cs.drop off).take 1)) else none := loadFrom_A lay19
@[simp] theorem st19 : ∀ (s : Sto) (id off : Nat) (q : PV), evStore Try.prog s 19 (.ptr id off) q = match cellsOf q with | some xs => (match s.get id with | some (.cells cs) => if xs.length = 1 ∧ xs.all PV.solid = true ∧ off + xs.length ≤ cs.length then some (s.set id (some (.cells (writeAt cs off xs)))) else none | _ => none) | none => none := evStore_U lay19
theorem foff19_0 : foff Try.prog 19 0 = some (0, 1, 17) := by kernel_rfl
@[simp] theorem fp19_0 : ∀ (id off : Nat), evFieldAddr Try.prog 19 (.ptr id off) 0 = some (.ptr id (off + 0)) := evFieldAddr_ptr foff19_0
@[simp] theorem fr19_0 : ∀ (cs : List PV), evFieldAddr Try.prog 19 (.rptr cs) 0 = some (.rptr (cs.drop 0)) := evFieldAddr_rptr foff19_0
@[simp] theorem fa19_0 : ∀ (cs : List PV), evField Try.prog 19 (.agg cs) 0 = loadFrom Try.prog 17 cs 0 := evField_agg foff19_0
theorem alc19 : alc Try.prog 19 = some [.lit (.pointer none)] := by kernel_rfl
@[simp] theorem al19 : ∀ (s : Sto), evAlloc Try.prog s 19 = some (.ptr s.next 0, s.push (.cells [.lit (.pointer none)])) := evAlloc_eq alc19
theorem bld19 : bld Try.prog 19 = some ([.lit (.pointer none)], [(0, 1)]) := by kernel_rfl
@[simp] theorem bd19 : ∀ (e : Env) (parts : Array (Nat × Operand)), evBuild Try.prog e 19 parts = (fillP ((([.lit (.pointer none)], [(0, 1)]) : List PV × List (Nat × Nat)).2[·]?) e (([.lit (.pointer none)], [(0, 1)]) : List PV × List (Nat × Nat)).1 parts.toList).map .agg := evBuild_eq bld19
theorem lay20 : lay Try.prog 20 = some (false, 1) := by kernel_rfl
@[simp] theorem ld20 : ∀ (cs : List PV) (off : Nat), loadFrom Try.prog 20 cs off = cs[off]? := loadFrom_one lay20
@[simp] theorem st20 : ∀ (s : Sto) (id off : Nat) (q : PV), evStore Try.prog s 20 (.ptr id off) q = match cellsOf q with | some xs => (match s.get id with | some (.cells cs) => if xs.length = 1 ∧ xs.all PV.solid = true ∧ off + xs.length ≤ cs.length then some (s.set id (some (.cells (writeAt cs off xs)))) else none | _ => none) | none => none := evStore_U lay20
theorem alc20 : alc Try.prog 20 = some [.lit .nilIface] := by kernel_rfl
@[simp] theorem al20 : ∀ (s : Sto), evAlloc Try.prog s 20 = some (.ptr s.next 0, s.push (.cells [.lit .nilIface])) := evAlloc_eq alc20
theorem lay21 : lay Try.prog 21 = some (false, 1) := by kernel_rfl
@[simp] theorem ld21 : ∀ (cs : List PV) (off : Nat), loadFrom Try.prog 21 cs off = cs[off]? := loadFrom_one lay21
@[simp] theorem st21 : ∀ (s : Sto) (id off : Nat) (q : PV), evStore Try.prog s 21 (.ptr id off) q = match cellsOf q with | some xs => (match s.get id with | some (.cells cs) => if xs.length = 1 ∧ xs.all PV.solid = true ∧ off + xs.length ≤ cs.length then some (s.set id (some (.cells (writeAt cs off xs)))) else none | _ => none) | none => none := evStore_U lay21
theorem alc21 : alc Try.prog 21 = some [.lit (.int .i32 (0))] := by kernel_rfl
@[simp] theorem al21 : ∀ (s : Sto), evAlloc Try.prog s 21 = some (.ptr s.next 0, s.push (.cells [.lit (.int .i32 (0))])) := evAlloc_eq alc21
theorem lay22 : lay Try.prog 22 = some (false, 1) := by kernel_rfl
@[simp] theorem ld22 : ∀ (cs : List PV) (off : Nat), loadFrom Try.prog 22 cs off = cs[off]? := loadFrom_one lay22
@[simp] theorem st22 : ∀ (s : Sto) (id off : Nat) (q : PV), evStore Try.prog s 22 (.ptr id off) q = match cellsOf q with | some xs => (match s.get id with | some (.cells cs) => if xs.length = 1 ∧ xs.all PV.solid = true ∧ off + xs.length ≤ cs.length then some (s.set id (some (.cells (writeAt cs off xs)))) else none | _ => none) | none => none := evStore_U lay22
theorem isSl22 : isSl Try.prog 22 = true := by kernel_rfl
@[simp] theorem len22 : ∀ (e : Env) (s : Sto) (ty : TypeId) (x : Operand), evBuiltin Try.prog e s ty .len #[22] #[x] = match evO e x with | .slice es _ => some (.lit (.int .i64 es.length), s) | .oslice _ _ n _ _ => some (.lit (.int .i64 n), s) | .lit v => (match pureRun Try.prog (Builtin.len_ #[22] ty #[v]) with | some r => some (ofValue r, s) | none => none) | _ => none := fun e s ty x => evB_len_U isSl22 s ty x
@[simp] theorem nil22 : ∀ (es : List PV) (g : Grow), evNil Try.prog 22 (.const (.slice none 0 0)) (.slice es g) = match es, g with | _ :: _, _ => some false | [], .nil => some true | [], .ex => some false | [], _ => none := evNil_sl isSl22
@[simp] theorem cap22 : ∀ (e : Env) (s : Sto) (ty : TypeId) (x : Operand), evBuiltinX Try.prog e s ty .cap #[22] #[x] = match evO e x with | .oslice _ _ _ (some c) _ => some (.lit (.int .i64 c), s) | _ => none := fun e s ty x => evBX_cap isSl22 e s ty x
theorem efl22 : efl Try.prog 22 = some (true, 3) := by kernel_rfl
@[simp] theorem fz22 : ∀ (s : Sto) (id off k : Nat) (c : Option Nat) (z : Nat), frz1 Try.prog s (some 22) (.oslice id off k c z) = match ownCells s id off (k * 3) with | some cs => if cleanL cs = true then some (.slice (chunks 3 k (normL cs)) .no) else none | none => none := fun s id off k c z => by rw [frz1_O efl22]; rfl
theorem elay22 : elay Try.prog 22 = some (none, 3) := by kernel_rfl
@[simp] theorem ix22 : ∀ (es : List PV) (g : Grow) (k : IntKind) (i : Int), evIndexAddr Try.prog 22 (.slice es g) (.lit (.int k i)) = if 0 ≤ i then (match es[i.toNat]? with | some e => if e.cells.length = 3 then some (.rptr e.cells) else none | none => none) else none := evIndexAddr_S elay22
@[simp] theorem ixo22 : ∀ (id off len : Nat) (c : Option Nat) (z : Nat) (k : IntKind) (i : Int), evIndexAddr Try.prog 22 (.oslice id off len c z) (.lit (.int k i)) = if 0 ≤ i ∧ i.toNat < len then some (.ptr id (off + i.toNat * 3)) else none := fun id off len c z k i => evIndexAddr_O elay22 id off len z c k i
@[simp] theorem so22 : ∀ (id off k : Nat) (c : Option Nat) (z : Nat) (lo hi : Option PV), evSliceX Try.prog 22 (.oslice id off k c z) lo hi none = match bounds3 k (c.getD k) lo hi none with | some (l, h, _) => (match c with | some cp => if k ≤ cp then some (.oslice id (if cp = l then off else off + l * 3) (h - l) (some (cp - l)) (if 3 = z then z else 0)) else none | none => if l < k then some (.oslice id (off + l * 3) (h - l) none (if 3 = z then z else 0)) else none) | none => none := fun id off k c z lo hi => evSliceX_O elay22 id off k z c lo hi
@[simp] theorem cp22 : ∀ (s : Sto) (id off k : Nat) (c : Option Nat) (z : Nat) (b : PV), evCopy Try.prog s 22 (.oslice id off k c z) b = match lenP b with | some m => (match srcCells s 3 (Nat.min m k) b with | some xs => (ownWrite s id off xs).map fun s' => (.lit (.int .i64 (Nat.min m k : Nat)), s') | none => none) | none => none := fun s id off k c z b => evCopy_U elay22 s id off k z c b
@[simp] theorem sl22 : ∀ (es : List PV) (g : Grow) (lo hi mx : Option PV), evSlice Try.prog 22 (.slice es g) lo hi mx = match bounds3 es.length es.length lo hi mx with | some (l, h, m) => if elemsOk 3 es = true then some (.slice ((es.take h).drop l) (match m, g with | some k, _ => if k = h then .full else .no | none, .full => if h = es.length then .full else .no | none, _ => .no)) else none | _ => none := evSlice_S elay22
theorem apd22 : apd Try.prog 22 = some (3, 40) := by kernel_rfl
@[simp] theorem ap22 : ∀ (s : Sto) (es xs : List PV) (g g' : Grow), evAppend Try.prog s #[22, 22] (.slice es g) (.slice xs g') = match xs with | [] => some (.slice es g, s) | x :: xs => if elemsOk 3 es = true ∧ elemsOk 3 (x :: xs) = true ∧ elemsSolid (x :: xs) = true ∧ (es.length + (x :: xs).length) * 40 ≤ 140737488355328 then (match g with | .full => some (.slice (es ++ x :: xs) (.tok s.next), s.push (.grow ((es.length + (x :: xs).length) * 3))) | .tok id => (match s.get id with | some (.grow used) => if used = es.length * 3 then some (.slice (es ++ x :: xs) (.tok s.next), (s.set id none).push (.grow ((es.length + (x :: xs).length) * 3))) else none | _ => none) | _ => none) else none := evAppend_U apd22
@[simp] theorem an22 : ∀ (s : Sto) (b : PV), evAppendN Try.prog s 22 22 (.slice [] .full) b = match lenP b with | some l => if l = 0 then some (.slice [] .full, s) else (match srcCells s 3 l b with | some xs => if l * 40 ≤ 140737488355328 then some (.oslice s.next 0 l none 3, s.push (.cells xs)) else none | none => none) | none => none := fun s b => evAppendN_U apd22 s b
@[simp] theorem ao22 : ∀ (s : Sto) (id off k c z : Nat) (b : PV), evAppendO Try.prog s 22 22 (.oslice id off k (some c) z) b = match lenP b with | some l => if 0 < l then (match srcCells s 3 l b with | some xs => if k + l ≤ c then (ownWrite s id (off + k * 3) xs).map fun s' => (.oslice id off (k + l) (some c) z, s') else if (k + l) * 40 ≤ 140737488355328 then (ownCells s id off (k * 3)).map fun old => (.oslice s.next 0 (k + l) none 3, s.push (.cells (old ++ xs))) else none | none => none) else none | none => none := fun s id off k c z b => evAppendO_S apd22 s id off k c z b
theorem bsl22 : bsl Try.prog 22 = some 3 := by kernel_rfl
@[simp] theorem bs22 : ∀ (e : Env) (len : Nat) (parts : Array (Nat × Operand)), evBuildSlice Try.prog e 22 len parts = match evElems e 3 0 parts.toList with | some es => if es.length = len ∧ len * 3 ≤ 16777216 then some (.slice es .full) else none | none => none := evBuildSlice_U bsl22
theorem alc22 : alc Try.prog 22 = some [.slice [] .full] := by kernel_rfl
@[simp] theorem al22 : ∀ (s : Sto), evAlloc Try.prog s 22 = some (.ptr s.next 0, s.push (.cells [.slice [] .full])) := evAlloc_eq alc22
theorem lay23 : lay Try.prog 23 = some (false, 1) := by kernel_rfl
@[simp] theorem ld23 : ∀ (cs : List PV) (off : Nat), loadFrom Try.prog 23 cs off = cs[off]? := loadFrom_one lay23
@[simp] theorem st23 : ∀ (s : Sto) (id off : Nat) (q : PV), evStore Try.prog s 23 (.ptr id off) q = match cellsOf q with | some xs => (match s.get id with | some (.cells cs) => if xs.length = 1 ∧ xs.all PV.solid = true ∧ off + xs.length ≤ cs.length then some (s.set id (some (.cells (writeAt cs off xs)))) else none | _ => none) | none => none := evStore_U lay23
theorem alc23 : alc Try.prog 23 = some [.lit .nilFunc] := by kernel_rfl
@[simp] theorem al23 : ∀ (s : Sto), evAlloc Try.prog s 23 = some (.ptr s.next 0, s.push (.cells [.lit .nilFunc])) := evAlloc_eq alc23
theorem lay24 : lay Try.prog 24 = some (false, 1) := by kernel_rfl
@[simp] theorem ld24 : ∀ (cs : List PV) (off : Nat), loadFrom Try.prog 24 cs off = cs[off]? := loadFrom_one lay24
@[simp] theorem st24 : ∀ (s : Sto) (id off : Nat) (q : PV), evStore Try.prog s 24 (.ptr id off) q = match cellsOf q with | some xs => (match s.get id with | some (.cells cs) => if xs.length = 1 ∧ xs.all PV.solid = true ∧ off + xs.length ≤ cs.length then some (s.set id (some (.cells (writeAt cs off xs)))) else none | _ => none) | none => none := evStore_U lay24
theorem alc24 : alc Try.prog 24 = some [.lit .nilFunc] := by kernel_rfl
@[simp] theorem al24 : ∀ (s : Sto), evAlloc Try.prog s 24 = some (.ptr s.next 0, s.push (.cells [.lit .nilFunc])) := evAlloc_eq alc24
theorem lay25 : lay Try.prog 25 = some (false, 1) := by kernel_rfl
@[simp] theorem ld25 : ∀ (cs : List PV) (off : Nat), loadFrom Try.prog 25 cs off = cs[off]? := loadFrom_one lay25
@[simp] theorem st25 : ∀ (s : Sto) (id off : Nat) (q : PV), evStore Try.prog s 25 (.ptr id off) q = match cellsOf q with | some xs => (match s.get id with | some (.cells cs) => if xs.length = 1 ∧ xs.all PV.solid = true ∧ off + xs.length ≤ cs.length then some (s.set id (some (.cells (writeAt cs off xs)))) else none | _ => none) | none => none := evStore_U lay25
theorem alc25 : alc Try.prog 25 = some [.lit .nilFunc] := by kernel_rfl
@[simp] theorem al25 : ∀ (s : Sto), evAlloc Try.prog s 25 = some (.ptr s.next 0, s.push (.cells [.lit .nilFunc])) := evAlloc_eq alc25
theorem lay26 : lay Try.prog 26 = some (false, 1) := by kernel_rfl
@[simp] theorem ld26 : ∀ (cs : List PV) (off : Nat), loadFrom Try.prog 26 cs off = cs[off]? := loadFrom_one lay26
@[simp] theorem st26 : ∀ (s : Sto) (id off : Nat) (q : PV), evStore Try.prog s 26 (.ptr id off) q = match cellsOf q with | some xs => (match s.get id with | some (.cells cs) => if xs.length = 1 ∧ xs.all PV.solid = true ∧ off + xs.length ≤ cs.length then some (s.set id (some (.cells (writeAt cs off xs)))) else none | _ => none) | none => none := evStore_U lay26
theorem alc26 : alc Try.prog 26 = some [.lit .nilFunc] := by kernel_rfl
@[simp] theorem al26 : ∀ (s : Sto), evAlloc Try.prog s 26 = some (.ptr s.next 0, s.push (.cells [.lit .nilFunc])) := evAlloc_eq alc26
theorem lay27 : lay Try.prog 27 = some (false, 1) := by kernel_rfl
@[simp] theorem ld27 : ∀ (cs : List PV) (off : Nat), loadFrom Try.prog 27 cs off = cs[off]? := loadFrom_one lay27
@[simp] theorem st27 : ∀ (s : Sto) (id off : Nat) (q : PV), evStore Try.prog s 27 (.ptr id off) q = match cellsOf q with | some xs => (match s.get id with | some (.cells cs) => if xs.length = 1 ∧ xs.all PV.solid = true ∧ off + xs.length ≤ cs.length then some (s.set id (some (.cells (writeAt cs off xs)))) else none | _ => none) | none => none := evStore_U lay27
theorem alc27 : alc Try.prog 27 = some [.lit .nilFunc] := by kernel_rfl
@[simp] theorem al27 : ∀ (s : Sto), evAlloc Try.prog s 27 = some (.ptr s.next 0, s.push (.cells [.lit .nilFunc])) := evAlloc_eq alc27
theorem lay28 : lay Try.prog 28 = some (false, 1) := by kernel_rfl
@[simp] theorem ld28 : ∀ (cs : List PV) (off : Nat), loadFrom Try.prog 28 cs off = cs[off]? := loadFrom_one lay28
@[simp] theorem st28 : ∀ (s : Sto) (id off : Nat) (q : PV), evStore Try.prog s 28 (.ptr id off) q = match cellsOf q with | some xs => (match s.get id with | some (.cells cs) => if xs.length = 1 ∧ xs.all PV.solid = true ∧ off + xs.length ≤ cs.length then some (s.set id (some (.cells (writeAt cs off xs)))) else none | _ => none) | none => none := evStore_U lay28
theorem alc28 : alc Try.prog 28 = some [.lit .nilFunc] := by kernel_rfl
@[simp] theorem al28 : ∀ (s : Sto), evAlloc Try.prog s 28 = some (.ptr s.next 0, s.push (.cells [.lit .nilFunc])) := evAlloc_eq alc28
theorem lay29 : lay Try.prog 29 = some (false, 1) := by kernel_rfl
@[simp] theorem ld29 : ∀ (cs : List PV) (off : Nat), loadFrom Try.prog 29 cs off = cs[off]? := loadFrom_one lay29
@[simp] theorem st29 : ∀ (s : Sto) (id off : Nat) (q : PV), evStore Try.prog s 29 (.ptr id off) q = match cellsOf q with | some xs => (match s.get id with | some (.cells cs) => if xs.length = 1 ∧ xs.all PV.solid = true ∧ off + xs.length ≤ cs.length then some (s.set id (some (.cells (writeAt cs off xs)))) else none | _ => none) | none => none := evStore_U lay29
theorem isSl29 : isSl Try.prog 29 = true := by kernel_rfl
@[simp] theorem len29 : ∀ (e : Env) (s : Sto) (ty : TypeId) (x : Operand), evBuiltin Try.prog e s ty .len #[29] #[x] = match evO e x with | .slice es _ => some (.lit (.int .i64 es.length), s) | .oslice _ _ n _ _ => some (.lit (.int .i64 n), s) | .lit v => (match pureRun Try.prog (Builtin.len_ #[29] ty #[v]) with | some r => some (ofValue r, s) | none => none) | _ => none := fun e s ty x => evB_len_U isSl29 s ty x
@[simp] theorem nil29 : ∀ (es : List PV) (g : Grow), evNil Try.prog 29 (.const (.slice none 0 0)) (.slice es g) = match es, g with | _ :: _, _ => some false | [], .nil => some true | [], .ex => some false | [], _ => none := evNil_sl isSl29
@[simp] theorem cap29 : ∀ (e : Env) (s : Sto) (ty : TypeId) (x : Operand), evBuiltinX Try.prog e s ty .cap #[29] #[x] = match evO e x with | .oslice _ _ _ (some c) _ => some (.lit (.int .i64 c), s) | _ => none := fun e s ty x => evBX_cap isSl29 e s ty x
theorem efl29 : efl Try.prog 29 = some (true, 2) := by kernel_rfl
@[simp] theorem fz29 : ∀ (s : Sto) (id off k : Nat) (c : Option Nat) (z : Nat), frz1 Try.prog s (some 29) (.oslice id off k c z) = match ownCells s id off (k * 2) with | some cs => if cleanL cs = true then some (.slice (chunks 2 k (normL cs)) .no) else none | none => none := fun s id off k c z => by rw [frz1_O efl29]; rfl
theorem elay29 : elay Try.prog 29 = some (none, 2) := by kernel_rfl
@[simp] theorem ix29 : ∀ (es : List PV) (g : Grow) (k : IntKind) (i : Int), evIndexAddr Try.prog 29 (.slice es g) (.lit (.int k i)) = if 0 ≤ i then (match es[i.toNat]? with | some e => if e.cells.length = 2 then some (.rptr e.cells) else none | none => none) else none := evIndexAddr_S elay29
@[simp] theorem ixo29 : ∀ (id off len : Nat) (c : Option Nat) (z : Nat) (k : IntKind) (i : Int), evIndexAddr Try.prog 29 (.oslice id off len c z) (.lit (.int k i)) = if 0 ≤ i ∧ i.toNat < len then some (.ptr id (off + i.toNat * 2)) else none := fun id off len c z k i => evIndexAddr_O elay29 id off len z c k i
@[simp] theorem so29 : ∀ (id off k : Nat) (c : Option Nat) (z : Nat) (lo hi : Option PV), evSliceX Try.prog 29 (.oslice id off k c z) lo hi none = match bounds3 k (c.getD k) lo hi none with | some (l, h, _) => (match c with | some cp => if k ≤ cp then some (.oslice id (if cp = l then off else off + l * 2) (h - l) (some (cp - l)) (if 2 = z then z else 0)) else none | none => if l < k then some (.oslice id (off + l * 2) (h - l) none (if 2 = z then z else 0)) else none) | none => none := fun id off k c z lo hi => evSliceX_O elay29 id off k z c lo hi
@[simp] theorem cp29 : ∀ (s : Sto) (id off k : Nat) (c : Option Nat) (z : Nat) (b : PV), evCopy Try.prog s 29 (.oslice id off k c z) b = match lenP b with | some m => (match srcCells s 2 (Nat.min m k) b with | some xs => (ownWrite s id off xs).map fun s' => (.lit (.int .i64 (Nat.min m k : Nat)), s') | none => none) | none => none := fun s id off k c z b => evCopy_U elay29 s id off k z c b
@[simp] theorem sl29 : ∀ (es : List PV) (g : Grow) (lo hi mx : Option PV), evSlice Try.prog 29 (.slice es g) lo hi mx = match bounds3 es.length es.length lo hi mx with | some (l, h, m) => if elemsOk 2 es = true then some (.slice ((es.take h).drop l) (match m, g with | some k, _ => if k = h then .full else .no | none, .full => if h = es.length then .full else .no | none, _ => .no)) else none | _ => none := evSlice_S elay29
theorem apd29 : apd Try.prog 29 = some (2, 16) := by kernel_rfl
@[simp] theorem ap29 : ∀ (s : Sto) (es xs : List PV) (g g' : Grow), evAppend Try.prog s #[29, 29] (.slice es g) (.slice xs g') = match xs with | [] => some (.slice es g, s) | x :: xs => if elemsOk 2 es = true ∧ elemsOk 2 (x :: xs) = true ∧ elemsSolid (x :: xs) = true ∧ (es.length + (x :: xs).length) * 16 ≤ 140737488355328 then (match g with | .full => some (.slice (es ++ x :: xs) (.tok s.next), s.push (.grow ((es.length + (x :: xs).length) * 2))) | .tok id => (match s.get id with | some (.grow used) => if used = es.length * 2 then some (.slice (es ++ x :: xs) (.tok s.next), (s.set id none).push (.grow ((es.length + (x :: xs).length) * 2))) else none | _ => none) | _ => none) else none := evAppend_U apd29
@[simp] theorem an29 : ∀ (s : Sto) (b : PV), evAppendN Try.prog s 29 29 (.slice [] .full) b = match lenP b with | some l => if l = 0 then some (.slice [] .full, s) else (match srcCells s 2 l b with | some xs => if l * 16 ≤ 140737488355328 then some (.oslice s.next 0 l none 2, s.push (.cells xs)) else none | none => none) | none => none := fun s b => evAppendN_U apd29 s b
@[simp] theorem ao29 : ∀ (s : Sto) (id off k c z : Nat) (b : PV), evAppendO Try.prog s 29 29 (.oslice id off k (some c) z) b = match lenP b with | some l => if 0 < l then (match srcCells s 2 l b with | some xs => if k + l ≤ c then (ownWrite s id (off + k * 2) xs).map fun s' => (.oslice id off (k + l) (some c) z, s') else if (k + l) * 16 ≤ 140737488355328 then (ownCells s id off (k * 2)).map fun old => (.oslice s.next 0 (k + l) none 2, s.push (.cells (old ++ xs))) else none | none => none) else none | none => none := fun s id off k c z b => evAppendO_S apd29 s id off k c z b
theorem bsl29 : bsl Try.prog 29 = some 2 := by kernel_rfl
@[simp] theorem bs29 : ∀ (e : Env) (len : Nat) (parts : Array (Nat × Operand)), evBuildSlice Try.prog e 29 len parts = match evElems e 2 0 parts.toList with | some es => if es.length = len ∧ len * 2 ≤ 16777216 then some (.slice es .full) else none | none => none := evBuildSlice_U bsl29
theorem alc29 : alc Try.prog 29 = some [.slice [] .full] := by kernel_rfl
@[simp] theorem al29 : ∀ (s : Sto), evAlloc Try.prog s 29 = some (.ptr s.next 0, s.push (.cells [.slice [] .full])) := evAlloc_eq alc29
theorem lay30 : lay Try.prog 30 = some (true, 2) := by kernel_rfl
@[simp] theorem ld30 : ∀ (cs : List PV) (off : Nat), loadFrom Try.prog 30 cs off = if off + 2 ≤ cs.length then some (.agg ((cs.drop off).take 2)) else none := loadFrom_A lay30
@[simp] theorem st30 : ∀ (s : Sto) (id off : Nat) (q : PV), evStore Try.prog s 30 (.ptr id off) q = match cellsOf q with | some xs => (match s.get id with | some (.cells cs) => if xs.length = 2 ∧ xs.all PV.solid = true ∧ off + xs.length ≤ cs.length then some (s.set id (some (.cells (writeAt cs off xs)))) else none | _ => none) | none => none := evStore_U lay30
theorem foff30_0 : foff Try.prog 30 0 = some (0, 1, 3) := by kernel_rfl
@[simp] theorem fp30_0 : ∀ (id off : Nat), evFieldAddr Try.prog 30 (.ptr id off) 0 = some (.ptr id (off + 0)) := evFieldAddr_ptr foff30_0
@[simp] theorem fr30_0 : ∀ (cs : List PV), evFieldAddr Try.prog 30 (.rptr cs) 0 = some (.rptr (cs.drop 0)) := evFieldAddr_rptr foff30_0
@[simp] theorem fa30_0 : ∀ (cs : List PV), evField Try.prog 30 (.agg cs) 0 = loadFrom Try.prog 3 cs 0 := evField_agg foff30_0
theorem foff30_1 : foff Try.prog 30 1 = some (1, 1, 3) := by kernel_rfl
@[simp] theorem fp30_1 : ∀ (id off : Nat), evFieldAddr Try.prog 30 (.ptr id off) 1 = some (.ptr id (off + 1)) := evFieldAddr_ptr foff30_1
@[simp] theorem fr30_1 : ∀ (cs : List PV), evFieldAddr Try.prog 30 (.rptr cs) 1 = some (.rptr (cs.drop 1)) := evFieldAddr_rptr foff30_1
@[simp] theorem fa30_1 : ∀ (cs : List PV), evField Try.prog 30 (.agg cs) 1 = loadFrom Try.prog 3 cs 1 := evField_agg foff30_1
theorem alc30 : alc Try.prog 30 = some [.lit (.int .i64 (0)), .lit (.int .i64 (0))] := by kernel_rfl
@[simp] theorem al30 : ∀ (s : Sto), evAlloc Try.prog s 30 = some (.ptr s.next 0, s.push (.cells [.lit (.int .i64 (0)), .lit (.int .i64 (0))])) := evAlloc_eq alc30
theorem bld30 : bld Try.prog 30 = some ([.lit (.int .i64 (0)), .lit (.int .i64 (0))], [(0, 1), (1, 1)]) := by kernel_rfl
@[simp] theorem bd30 : ∀ (e : Env) (parts : Array (Nat × Operand)), evBuild Try.prog e 30 parts = (fillP ((([.lit (.int .i64 (0)), .lit (.int .i64 (0))], [(0, 1), (1, 1)]) : List PV × List (Nat × Nat)).2[·]?) e (([.lit (.int .i64 (0)), .lit (.int .i64 (0))], [(0, 1), (1, 1)]) : List PV × List (Nat × Nat)).1 parts.toList).map .agg := evBuild_eq bld30
theorem lay31 : lay Try.prog 31 = some (true, 2) := by kernel_rfl
@[simp] theorem ld31 : ∀ (cs : List PV) (off : Nat), loadFrom Try.prog 31 cs off = if off + 2 ≤ cs.length then some (.agg ((cs.drop off).take 2)) else none := loadFrom_A lay31
@[simp] theorem st31 : ∀ (s : Sto) (id off : Nat) (q : PV), evStore Try.prog s 31 (.ptr id off) q = match cellsOf q with | some xs => (match s.get id with | some (.cells cs) => if xs.length = 2 ∧ xs.all PV.solid = true ∧ off + xs.length ≤ cs.length then some (s.set id (some (.cells (writeAt cs off xs)))) else none | _ => none) | none => none := evStore_U lay31
theorem foff31_0 : foff Try.prog 31 0 = some (0, 1, 3) := by kernel_rfl
@[simp] theorem fp31_0 : ∀ (id off : Nat), evFieldAddr Try.prog 31 (.ptr id off) 0 = some (.ptr id (off + 0)) := evFieldAddr_ptr foff31_0
@[simp] theorem fr31_0 : ∀ (cs : List PV), evFieldAddr Try.prog 31 (.rptr cs) 0 = some (.rptr (cs.drop 0)) := evFieldAddr_rptr foff31_0
@[simp] theorem fa31_0 : ∀ (cs : List PV), evField Try.prog 31 (.agg cs) 0 = loadFrom Try.prog 3 cs 0 := evField_agg foff31_0
theorem foff31_1 : foff Try.prog 31 1 = some (1, 1, 3) := by kernel_rfl
@[simp] theorem fp31_1 : ∀ (id off : Nat), evFieldAddr Try.prog 31 (.ptr id off) 1 = some (.ptr id (off + 1)) := evFieldAddr_ptr foff31_1
@[simp] theorem fr31_1 : ∀ (cs : List PV), evFieldAddr Try.prog 31 (.rptr cs) 1 = some (.rptr (cs.drop 1)) := evFieldAddr_rptr foff31_1
@[simp] theorem fa31_1 : ∀ (cs : List PV), evField Try.prog 31 (.agg cs) 1 = loadFrom Try.prog 3 cs 1 := evField_agg foff31_1
theorem alc31 : alc Try.prog 31 = some [.lit (.int .i64 (0)), .lit (.int .i64 (0))] := by kernel_rfl
@[simp] theorem al31 : ∀ (s : Sto), evAlloc Try.prog s 31 = some (.ptr s.next 0, s.push (.cells [.lit (.int .i64 (0)), .lit (.int .i64 (0))])) := evAlloc_eq alc31
theorem bld31 : bld Try.prog 31 = some ([.lit (.int .i64 (0)), .lit (.int .i64 (0))], [(0, 1), (1, 1)]) := by kernel_rfl
@[simp] theorem bd31 : ∀ (e : Env) (parts : Array (Nat × Operand)), evBuild Try.prog e 31 parts = (fillP ((([.lit (.int .i64 (0)), .lit (.int .i64 (0))], [(0, 1), (1, 1)]) : List PV × List (Nat × Nat)).2[·]?) e (([.lit (.int .i64 (0)), .lit (.int .i64 (0))], [(0, 1), (1, 1)]) : List PV × List (Nat × Nat)).1 parts.toList).map .agg := evBuild_eq bld31
theorem lay32 : lay Try.prog 32 = some (false, 1) := by kernel_rfl
@[simp] theorem ld32 : ∀ (cs : List PV) (off : Nat), loadFrom Try.prog 32 cs off = cs[off]? := loadFrom_one lay32
@[simp] theorem st32 : ∀ (s : Sto) (id off : Nat) (q : PV), evStore Try.prog s 32 (.ptr id off) q = match cellsOf q with | some xs => (match s.get id with | some (.cells cs) => if xs.length = 1 ∧ xs.all PV.solid = true ∧ off + xs.length ≤ cs.length then some (s.set id (some (.cells (writeAt cs off xs)))) else none | _ => none) | none => none := evStore_U lay32
theorem alc32 : alc Try.prog 32 = some [.lit .nilFunc] := by kernel_rfl
@[simp] theorem al32 : ∀ (s : Sto), evAlloc Try.prog s 32 = some (.ptr s.next 0, s.push (.cells [.lit .nilFunc])) := evAlloc_eq alc32
theorem lay33 : lay Try.prog 33 = some (false, 1) := by kernel_rfl
@[simp] theorem ld33 : ∀ (cs : List PV) (off : Nat), loadFrom Try.prog 33 cs off = cs[off]? := loadFrom_one lay33
@[simp] theorem st33 : ∀ (s : Sto) (id off : Nat) (q : PV), evStore Try.prog s 33 (.ptr id off) q = match cellsOf q with | some xs => (match s.get id with | some (.cells cs) => if xs.length = 1 ∧ xs.all PV.solid = true ∧ off + xs.length ≤ cs.length then some (s.set id (some (.cells (writeAt cs off xs)))) else none | _ => none) | none => none := evStore_U lay33
theorem isSl33 : isSl Try.prog 33 = true := by kernel_rfl
@[simp] theorem len33 : ∀ (e : Env) (s : Sto) (ty : TypeId) (x : Operand), evBuiltin Try.prog e s ty .len #[33] #[x] = match evO e x with | .slice es _ => some (.lit (.int .i64 es.length), s) | .oslice _ _ n _ _ => some (.lit (.int .i64 n), s) | .lit v => (match pureRun Try.prog (Builtin.len_ #[33] ty #[v]) with | some r => some (ofValue r, s) | none => none) | _ => none := fun e s ty x => evB_len_U isSl33 s ty x
@[simp] theorem nil33 : ∀ (es : List PV) (g : Grow), evNil Try.prog 33 (.const (.slice none 0 0)) (.slice es g) = match es, g with | _ :: _, _ => some false | [], .nil => some true | [], .ex => some false | [], _ => none := evNil_sl isSl33
@[simp] theorem cap33 : ∀ (e : Env) (s : Sto) (ty : TypeId) (x : Operand), evBuiltinX Try.prog e s ty .cap #[33] #[x] = match evO e x with | .oslice _ _ _ (some c) _ => some (.lit (.int .i64 c), s) | _ => none := fun e s ty x => evBX_cap isSl33 e s ty x
theorem efl33 : efl Try.prog 33 = some (false, 1) := by kernel_rfl
@[simp] theorem fz33 : ∀ (s : Sto) (id off k : Nat) (c : Option Nat) (z : Nat), frz1 Try.prog s (some 33) (.oslice id off k c z) = match ownCells s id off (k * 1) with | some cs => if cleanL cs = true then (if (normL cs).all one1 = true then some (.slice (normL cs) .no) else none) else none | none => none := fun s id off k c z => by rw [frz1_O efl33]; cases ownCells s id off (k * 1) <;> simp
theorem elay33 : elay Try.prog 33 = some (none, 1) := by kernel_rfl
@[simp] theorem ix33 : ∀ (es : List PV) (g : Grow) (k : IntKind) (i : Int), evIndexAddr Try.prog 33 (.slice es g) (.lit (.int k i)) = if 0 ≤ i then (match es[i.toNat]? with | some e => if e.cells.length = 1 then some (.rptr e.cells) else none | none => none) else none := evIndexAddr_S elay33
@[simp] theorem ixo33 : ∀ (id off len : Nat) (c : Option Nat) (z : Nat) (k : IntKind) (i : Int), evIndexAddr Try.prog 33 (.oslice id off len c z) (.lit (.int k i)) = if 0 ≤ i ∧ i.toNat < len then some (.ptr id (off + i.toNat * 1)) else none := fun id off len c z k i => evIndexAddr_O elay33 id off len z c k i
@[simp] theorem so33 : ∀ (id off k : Nat) (c : Option Nat) (z : Nat) (lo hi : Option PV), evSliceX Try.prog 33 (.oslice id off k c z) lo hi none = match bounds3 k (c.getD k) lo hi none with | some (l, h, _) => (match c with | some cp => if k ≤ cp then some (.oslice id (if cp = l then off else off + l * 1) (h - l) (some (cp - l)) (if 1 = z then z else 0)) else none | none => if l < k then some (.oslice id (off + l * 1) (h - l) none (if 1 = z then z else 0)) else none) | none => none := fun id off k c z lo hi => evSliceX_O elay33 id off k z c lo hi
@[simp] theorem cp33 : ∀ (s : Sto) (id off k : Nat) (c : Option Nat) (z : Nat) (b : PV), evCopy Try.prog s 33 (.oslice id off k c z) b = match lenP b with | some m => (match srcCells s 1 (Nat.min m k) b with | some xs => (ownWrite s id off xs).map fun s' => (.lit (.int .i64 (Nat.min m k : Nat)), s') | none => none) | none => none := fun s id off k c z b => evCopy_U elay33 s id off k z c b
@[simp] theorem sl33 : ∀ (es : List PV) (g : Grow) (lo hi mx : Option PV), evSlice Try.prog 33 (.slice es g) lo hi mx = match bounds3 es.length es.length lo hi mx with | some (l, h, m) => if elemsOk 1 es = true then some (.slice ((es.take h).drop l) (match m, g with | some k, _ => if k = h then .full else .no | none, .full => if h = es.length then .full else .no | none, _ => .no)) else none | _ => none := evSlice_S elay33
theorem apd33 : apd Try.prog 33 = some (1, 8) := by kernel_rfl
@[simp] theorem ap33 : ∀ (s : Sto) (es xs : List PV) (g g' : Grow), evAppend Try.prog s #[33, 33] (.slice es g) (.slice xs g') = match xs with | [] => some (.slice es g, s) | x :: xs => if elemsOk 1 es = true ∧ elemsOk 1 (x :: xs) = true ∧ elemsSolid (x :: xs) = true ∧ (es.length + (x :: xs).length) * 8 ≤ 140737488355328 then (match g with | .full => some (.slice (es ++ x :: xs) (.tok s.next), s.push (.grow ((es.length + (x :: xs).length) * 1))) | .tok id => (match s.get id with | some (.grow used) => if used = es.length * 1 then some (.slice (es ++ x :: xs) (.tok s.next), (s.set id none).push (.grow ((es.length + (x :: xs).length) * 1))) else none | _ => none) | _ => none) else none := evAppend_U apd33
@[simp] theorem an33 : ∀ (s : Sto) (b : PV), evAppendN Try.prog s 33 33 (.slice [] .full) b = match lenP b with | some l => if l = 0 then some (.slice [] .full, s) else (match srcCells s 1 l b with | some xs => if l * 8 ≤ 140737488355328 then some (.oslice s.next 0 l none 1, s.push (.cells xs)) else none | none => none) | none => none := fun s b => evAppendN_U apd33 s b
@[simp] theorem ao33 : ∀ (s : Sto) (id off k c z : Nat) (b : PV), evAppendO Try.prog s 33 33 (.oslice id off k (some c) z) b = match lenP b with | some l => if 0 < l then (match srcCells s 1 l b with | some xs => if k + l ≤ c then (ownWrite s id (off + k * 1) xs).map fun s' => (.oslice id off (k + l) (some c) z, s') else if (k + l) * 8 ≤ 140737488355328 then (ownCells s id off (k * 1)).map fun old => (.oslice s.next 0 (k + l) none 1, s.push (.cells (old ++ xs))) else none | none => none) else none | none => none := fun s id off k c z b => evAppendO_S apd33 s id off k c z b
theorem bsl33 : bsl Try.prog 33 = some 1 := by kernel_rfl
@[simp] theorem bs33 : ∀ (e : Env) (len : Nat) (parts : Array (Nat × Operand)), evBuildSlice Try.prog e 33 len parts = match evElems e 1 0 parts.toList with | some es => if es.length = len ∧ len * 1 ≤ 16777216 then some (.slice es .full) else none | none => none := evBuildSlice_U bsl33
theorem alc33 : alc Try.prog 33 = some [.slice [] .full] := by kernel_rfl
@[simp] theorem al33 : ∀ (s : Sto), evAlloc Try.prog s 33 = some (.ptr s.next 0, s.push (.cells [.slice [] .full])) := evAlloc_eq alc33
theorem lay34 : lay Try.prog 34 = some (true, 3) := by kernel_rfl
@[simp] theorem ld34 : ∀ (cs : List PV) (off : Nat), loadFrom Try.prog 34 cs off = if off + 3 ≤ cs.length then some (.agg ((cs.drop off).take 3)) else none := loadFrom_A lay34
@[simp] theorem st34 : ∀ (s : Sto) (id off : Nat) (q : PV), evStore Try.prog s 34 (.ptr id off) q = match cellsOf q with | some xs => (match s.get id with | some (.cells cs) => if xs.length = 3 ∧ xs.all PV.solid = true ∧ off + xs.length ≤ cs.length then some (s.set id (some (.cells (writeAt cs off xs)))) else none | _ => none) | none => none := evStore_U lay34
theorem foff34_0 : foff Try.prog 34 0 = some (0, 1, 3) := by kernel_rfl
@[simp] theorem fp34_0 : ∀ (id off : Nat), evFieldAddr Try.prog 34 (.ptr id off) 0 = some (.ptr id (off + 0)) := evFieldAddr_ptr foff34_0
@[simp] theorem fr34_0 : ∀ (cs : List PV), evFieldAddr Try.prog 34 (.rptr cs) 0 = some (.rptr (cs.drop 0)) := evFieldAddr_rptr foff34_0
@[simp] theorem fa34_0 : ∀ (cs : List PV), evField Try.prog 34 (.agg cs) 0 = loadFrom Try.prog 3 cs 0 := evField_agg foff34_0
theorem foff34_1 : foff Try.prog 34 1 = some (1, 1, 3) := by kernel_rfl
@[simp] theorem fp34_1 : ∀ (id off : Nat), evFieldAddr Try.prog 34 (.ptr id off) 1 = some (.ptr id (off + 1)) := evFieldAddr_ptr foff34_1
@[simp] theorem fr34_1 : ∀ (cs : List PV), evFieldAddr Try.prog 34 (.rptr cs) 1 = some (.rptr (cs.drop 1)) := evFieldAddr_rptr foff34_1
@[simp] theorem fa34_1 : ∀ (cs : List PV), evField Try.prog 34 (.agg cs) 1 = loadFrom Try.prog 3 cs 1 := evField_agg foff34_1
theorem foff34_2 : foff Try.prog 34 2 = some (2, 1, 33) := by kernel_rfl
@[simp] theorem fp34_2 : ∀ (id off : Nat), evFieldAddr Try.prog 34 (.ptr id off) 2 = some (.ptr id (off + 2)) := evFieldAddr_ptr foff34_2
@[simp] theorem fr34_2 : ∀ (cs : List PV), evFieldAddr Try.prog 34 (.rptr cs) 2 = some (.rptr (cs.drop 2)) := evFieldAddr_rptr foff34_2
@[simp] theorem fa34_2 : ∀ (cs : List PV), evField Try.prog 34 (.agg cs) 2 = loadFrom Try.prog 33 cs 2 := evField_agg foff34_2
theorem alc34 : alc Try.prog 34 = some [.lit (.int .i64 (0)), .lit (.int .i64 (0)), .slice [] .full] := by kernel_rfl
@[simp] theorem al34 : ∀ (s : Sto), evAlloc Try.prog s 34 = some (.ptr s.next 0, s.push (.cells [.lit (.int .i64 (0)), .lit (.int .i64 (0)), .slice [] .full])) := evAlloc_eq alc34
theorem bld34 : bld Try.prog 34 = some ([.lit (.int .i64 (0)), .lit (.int .i64 (0)), .slice [] .full], [(0, 1), (1, 1), (2, 1)]) := by kernel_rfl
@[simp] theorem bd34 : ∀ (e : Env) (parts : Array (Nat × Operand)), evBuild Try.prog e 34 parts = (fillP ((([.lit (.int .i64 (0)), .lit (.int .i64 (0)), .slice [] .full], [(0, 1), (1, 1), (2, 1)]) : List PV × List (Nat × Nat)).2[·]?) e (([.lit (.int .i64 (0)), .lit (.int .i64 (0)), .slice [] .full], [(0, 1), (1, 1), (2, 1)]) : List PV × List (Nat × Nat)).1 parts.toList).map .agg := evBuild_eq bld34
theorem lay35 : lay Try.prog 35 = some (true, 3) := by kernel_rfl
@[simp] theorem ld35 : ∀ (cs : List PV) (off : Nat), loadFrom Try.prog 35 cs off = if off + 3 ≤ cs.length then some (.agg ((cs.drop off).take 3)) else none := loadFrom_A lay35
@[simp] theorem st35 : ∀ (s : Sto) (id off : Nat) (q : PV), evStore Try.prog s 35 (.ptr id off) q = match cellsOf q with | some xs => (match s.get id with | some (.cells cs) => if xs.length = 3 ∧ xs.all PV.solid = true ∧ off + xs.length ≤ cs.length then some (s.set id (some (.cells (writeAt cs off xs)))) else none | _ => none) | none => none := evStore_U lay35
theorem foff35_0 : foff Try.prog 35 0 = some (0, 1, 3) := by kernel_rfl
@[simp] theorem fp35_0 : ∀ (id off : Nat), evFieldAddr Try.prog 35 (.ptr id off) 0 = some (.ptr id (off + 0)) := evFieldAddr_ptr foff35_0
@[simp] theorem fr35_0 : ∀ (cs : List PV), evFieldAddr Try.prog 35 (.rptr cs) 0 = some (.rptr (cs.drop 0)) := evFieldAddr_rptr foff35_0
@[simp] theorem fa35_0 : ∀ (cs : List PV), evField Try.prog 35 (.agg cs) 0 = loadFrom Try.prog 3 cs 0 := evField_agg foff35_0
theorem foff35_1 : foff Try.prog 35 1 = some (1, 1, 3) := by kernel_rfl
@[simp] theorem fp35_1 : ∀ (id off : Nat), evFieldAddr Try.prog 35 (.ptr id off) 1 = some (.ptr id (off + 1)) := evFieldAddr_ptr foff35_1
@[simp] theorem fr35_1 : ∀ (cs : List PV), evFieldAddr Try.prog 35 (.rptr cs) 1 = some (.rptr (cs.drop 1)) := evFieldAddr_rptr foff35_1
@[simp] theorem fa35_1 : ∀ (cs : List PV), evField Try.prog 35 (.agg cs) 1 = loadFrom Try.prog 3 cs 1 := evField_agg foff35_1
theorem foff35_2 : foff Try.prog 35 2 = some (2, 1, 33) := by kernel_rfl
@[simp] theorem fp35_2 : ∀ (id off : Nat), evFieldAddr Try.prog 35 (.ptr id off) 2 = some (.ptr id (off + 2)) := evFieldAddr_ptr foff35_2
@[simp] theorem fr35_2 : ∀ (cs : List PV), evFieldAddr Try.prog 35 (.rptr cs) 2 = some (.rptr (cs.drop 2)) := evFieldAddr_rptr foff35_2
@[simp] theorem fa35_2 : ∀ (cs : List PV), evField Try.prog 35 (.agg cs) 2 = loadFrom Try.prog 33 cs 2 := evField_agg foff35_2
theorem alc35 : alc Try.prog 35 = some [.lit (.int .i64 (0)), .lit (.int .i64 (0)), .slice [] .full] := by kernel_rfl
@[simp] theorem al35 : ∀ (s : Sto), evAlloc Try.prog s 35 = some (.ptr s.next 0, s.push (.cells [.lit (.int .i64 (0)), .lit (.int .i64 (0)), .slice [] .full])) := evAlloc_eq alc35
theorem bld35 : bld Try.prog 35 = some ([.lit (.int .i64 (0)), .lit (.int .i64 (0)), .slice [] .full], [(0, 1), (1, 1), (2, 1)]) := by kernel_rfl
@[simp] theorem bd35 : ∀ (e : Env) (parts : Array (Nat × Operand)), evBuild Try.prog e 35 parts = (fillP ((([.lit (.int .i64 (0)), .lit (.int .i64 (0)), .slice [] .full], [(0, 1), (1, 1), (2, 1)]) : List PV × List (Nat × Nat)).2[·]?) e (([.lit (.int .i64 (0)), .lit (.int .i64 (0)), .slice [] .full], [(0, 1), (1, 1), (2, 1)]) : List PV × List (Nat × Nat)).1 parts.toList).map .agg := evBuild_eq bld35
theorem lay36 : lay Try.prog 36 = some (false, 1) := by kernel_rfl
@[simp] theorem ld36 : ∀ (cs : List PV) (off : Nat), loadFrom Try.prog 36 cs off = cs[off]? := loadFrom_one lay36
@[simp] theorem st36 : ∀ (s : Sto) (id off : Nat) (q : PV), evStore Try.prog s 36 (.ptr id off) q = match cellsOf q with | some xs => (match s.get id with | some (.cells cs) => if xs.length = 1 ∧ xs.all PV.solid = true ∧ off + xs.length ≤ cs.length then some (s.set id (some (.cells (writeAt cs off xs)))) else none | _ => none) | none => none := evStore_U lay36
theorem alc36 : alc Try.prog 36 = some [.lit .nilFunc] := by kernel_rfl
@[simp] theorem al36 : ∀ (s : Sto), evAlloc Try.prog s 36 = some (.ptr s.next 0, s.push (.cells [.lit .nilFunc])) := evAlloc_eq alc36
theorem lay37 : lay Try.prog 37 = some (false, 1) := by kernel_rfl
@[simp] theorem ld37 : ∀ (cs : List PV) (off : Nat), loadFrom Try.prog 37 cs off = cs[off]? := loadFrom_one lay37
@[simp] theorem st37 : ∀ (s : Sto) (id off : Nat) (q : PV), evStore Try.prog s 37 (.ptr id off) q = match cellsOf q with | some xs => (match s.get id with | some (.cells cs) => if xs.length = 1 ∧ xs.all PV.solid = true ∧ off + xs.length ≤ cs.length then some (s.set id (some (.cells (writeAt cs off xs)))) else none | _ => none) | none => none := evStore_U lay37
theorem alc37 : alc Try.prog 37 = some [.lit .nilFunc] := by kernel_rfl
@[simp] theorem al37 : ∀ (s : Sto), evAlloc Try.prog s 37 = some (.ptr s.next 0, s.push (.cells [.lit .nilFunc])) := evAlloc_eq alc37
theorem lay38 : lay Try.prog 38 = some (false, 1) := by kernel_rfl
@[simp] theorem ld38 : ∀ (cs : List PV) (off : Nat), loadFrom Try.prog 38 cs off = cs[off]? := loadFrom_one lay38
@[simp] theorem st38 : ∀ (s : Sto) (id off : Nat) (q : PV), evStore Try.prog s 38 (.ptr id off) q = match cellsOf q with | some xs => (match s.get id with | some (.cells cs) => if xs.length = 1 ∧ xs.all PV.solid = true ∧ off + xs.length ≤ cs.length then some (s.set id (some (.cells (writeAt cs off xs)))) else none | _ => none) | none => none := evStore_U lay38
theorem lay39 : lay Try.prog 39 = some (false, 1) := by kernel_rfl
@[simp] theorem ld39 : ∀ (cs : List PV) (off : Nat), loadFrom Try.prog 39 cs off = cs[off]? := loadFrom_one lay39
@[simp] theorem st39 : ∀ (s : Sto) (id off : Nat) (q : PV), evStore Try.prog s 39 (.ptr id off) q = match cellsOf q with | some xs => (match s.get id with | some (.cells cs) => if xs.length = 1 ∧ xs.all PV.solid = true ∧ off + xs.length ≤ cs.length then some (s.set id (some (.cells (writeAt cs off xs)))) else none | _ => none) | none => none := evStore_U lay39
theorem alc39 : alc Try.prog 39 = some [.lit .nilFunc] := by kernel_rfl
@[simp] theorem al39 : ∀ (s : Sto), evAlloc Try.prog s 39 = some (.ptr s.next 0, s.push (.cells [.lit .nilFunc])) := evAlloc_eq alc39
theorem lay40 : lay Try.prog 40 = some (false, 1) := by kernel_rfl
@[simp] theorem ld40 : ∀ (cs : List PV) (off : Nat), loadFrom Try.prog 40 cs off = cs[off]? := loadFrom_one lay40
@[simp] theorem st40 : ∀ (s : Sto) (id off : Nat) (q : PV), evStore Try.prog s 40 (.ptr id off) q = match cellsOf q with | some xs => (match s.get id with | some (.cells cs) => if xs.length = 1 ∧ xs.all PV.solid = true ∧ off + xs.length ≤ cs.length then some (s.set id (some (.cells (writeAt cs off xs)))) else none | _ => none) | none => none := evStore_U lay40
theorem alc40 : alc Try.prog 40 = some [.lit .nilFunc] := by kernel_rfl
@[simp] theorem al40 : ∀ (s : Sto), evAlloc Try.prog s 40 = some (.ptr s.next 0, s.push (.cells [.lit .nilFunc])) := evAlloc_eq alc40
theorem lay41 : lay Try.prog 41 = some (false, 1) := by kernel_rfl
@[simp] theorem ld41 : ∀ (cs : List PV) (off : Nat), loadFrom Try.prog 41 cs off = cs[off]? := loadFrom_one lay41
@[simp] theorem st41 : ∀ (s : Sto) (id off : Nat) (q : PV), evStore Try.prog s 41 (.ptr id off) q = match cellsOf q with | some xs => (match s.get id with | some (.cells cs) => if xs.length = 1 ∧ xs.all PV.solid = true ∧ off + xs.length ≤ cs.length then some (s.set id (some (.cells (writeAt cs off xs)))) else none | _ => none) | none => none := evStore_U lay41
theorem alc41 : alc Try.prog 41 = some [.lit .nilFunc] := by kernel_rfl
@[simp] theorem al41 : ∀ (s : Sto), evAlloc Try.prog s 41 = some (.ptr s.next 0, s.push (.cells [.lit .nilFunc])) := evAlloc_eq alc41
theorem lay42 : lay Try.prog 42 = some (false, 1) := by kernel_rfl
@[simp] theorem ld42 : ∀ (cs : List PV) (off : Nat), loadFrom Try.prog 42 cs off = cs[off]? := loadFrom_one lay42
@[simp] theorem st42 : ∀ (s : Sto) (id off : Nat) (q : PV), evStore Try.prog s 42 (.ptr id off) q = match cellsOf q with | some xs => (match s.get id with | some (.cells cs) => if xs.length = 1 ∧ xs.all PV.solid = true ∧ off + xs.length ≤ cs.length then some (s.set id (some (.cells (writeAt cs off xs)))) else none | _ => none) | none => none := evStore_U lay42
theorem alc42 : alc Try.prog 42 = some [.lit .nilFunc] := by kernel_rfl
@[simp] theorem al42 : ∀ (s : Sto), evAlloc Try.prog s 42 = some (.ptr s.next 0, s.push (.cells [.lit .nilFunc])) := evAlloc_eq alc42
theorem lay43 : lay Try.prog 43 = some (false, 1) := by kernel_rfl
@[simp] theorem ld43 : ∀ (cs : List PV) (off : Nat), loadFrom Try.prog 43 cs off = cs[off]? := loadFrom_one lay43
@[simp] theorem st43 : ∀ (s : Sto) (id off : Nat) (q : PV), evStore Try.prog s 43 (.ptr id off) q = match cellsOf q with | some xs => (match s.get id with | some (.cells cs) => if xs.length = 1 ∧ xs.all PV.solid = true ∧ off + xs.length ≤ cs.length then some (s.set id (some (.cells (writeAt cs off xs)))) else none | _ => none) | none => none := evStore_U lay43
theorem alc43 : alc Try.prog 43 = some [.lit .nilFunc] := by kernel_rfl
@[simp] theorem al43 : ∀ (s : Sto), evAlloc Try.prog s 43 = some (.ptr s.next 0, s.push (.cells [.lit .nilFunc])) := evAlloc_eq alc43
theorem lay44 : lay Try.prog 44 = some (false, 1) := by kernel_rfl
@[simp] theorem ld44 : ∀ (cs : List PV) (off : Nat), loadFrom Try.prog 44 cs off = cs[off]? := loadFrom_one lay44
@[simp] theorem st44 : ∀ (s : Sto) (id off : Nat) (q : PV), evStore Try.prog s 44 (.ptr id off) q = match cellsOf q with | some xs => (match s.get id with | some (.cells cs) => if xs.length = 1 ∧ xs.all PV.solid = true ∧ off + xs.length ≤ cs.length then some (s.set id (some (.cells (writeAt cs off xs)))) else none | _ => none) | none => none := evStore_U lay44
theorem alc44 : alc Try.prog 44 = some [.lit .nilFunc] := by kernel_rfl
@[simp] theorem al44 : ∀ (s : Sto), evAlloc Try.prog s 44 = some (.ptr s.next 0, s.push (.cells [.lit .nilFunc])) := evAlloc_eq alc44
theorem lay45 : lay Try.prog 45 = some (false, 1) := by kernel_rfl
@[simp] theorem ld45 : ∀ (cs : List PV) (off : Nat), loadFrom Try.prog 45 cs off = cs[off]? := loadFrom_one lay45
@[simp] theorem st45 : ∀ (s : Sto) (id off : Nat) (q : PV), evStore Try.prog s 45 (.ptr id off) q = match cellsOf q with | some xs => (match s.get id with | some (.cells cs) => if xs.length = 1 ∧ xs.all PV.solid = true ∧ off + xs.length ≤ cs.length then some (s.set id (some (.cells (writeAt cs off xs)))) else none | _ => none) | none => none := evStore_U lay45
theorem alc45 : alc Try.prog 45 = some [.lit .nilFunc] := by kernel_rfl
@[simp] theorem al45 : ∀ (s : Sto), evAlloc Try.prog s 45 = some (.ptr s.next 0, s.push (.cells [.lit .nilFunc])) := evAlloc_eq alc45
theorem lay46 : lay Try.prog 46 = some (false, 1) := by kernel_rfl
@[simp] theorem ld46 : ∀ (cs : List PV) (off : Nat), loadFrom Try.prog 46 cs off = cs[off]? := loadFrom_one lay46
@[simp] theorem st46 : ∀ (s : Sto) (id off : Nat) (q : PV), evStore Try.prog s 46 (.ptr id off) q = match cellsOf q with | some xs => (match s.get id with | some (.cells cs) => if xs.length = 1 ∧ xs.all PV.solid = true ∧ off + xs.length ≤ cs.length then some (s.set id (some (.cells (writeAt cs off xs)))) else none | _ => none) | none => none := evStore_U lay46
theorem alc46 : alc Try.prog 46 = some [.lit .nilFunc] := by kernel_rfl
@[simp] theorem al46 : ∀ (s : Sto), evAlloc Try.prog s 46 = some (.ptr s.next 0, s.push (.cells [.lit .nilFunc])) := evAlloc_eq alc46
theorem lay47 : lay Try.prog 47 = some (false, 1) := by kernel_rfl
@[simp] theorem ld47 : ∀ (cs : List PV) (off : Nat), loadFrom Try.prog 47 cs off = cs[off]? := loadFrom_one lay47
@[simp] theorem st47 : ∀ (s : Sto) (id off : Nat) (q : PV), evStore Try.prog s 47 (.ptr id off) q = match cellsOf q with | some xs => (match s.get id with | some (.cells cs) => if xs.length = 1 ∧ xs.all PV.solid = true ∧ off + xs.length ≤ cs.length then some (s.set id (some (.cells (writeAt cs off xs)))) else none | _ => none) | none => none := evStore_U lay47
theorem alc47 : alc Try.prog 47 = some [.lit .nilFunc] := by kernel_rfl
@[simp] theorem al47 : ∀ (s : Sto), evAlloc Try.prog s 47 = some (.ptr s.next 0, s.push (.cells [.lit .nilFunc])) := evAlloc_eq alc47
theorem lay48 : lay Try.prog 48 = some (false, 1) := by kernel_rfl
@[simp] theorem ld48 : ∀ (cs : List PV) (off : Nat), loadFrom Try.prog 48 cs off = cs[off]? := loadFrom_one lay48
@[simp] theorem st48 : ∀ (s : Sto) (id off : Nat) (q : PV), evStore Try.prog s 48 (.ptr id off) q = match cellsOf q with | some xs => (match s.get id with | some (.cells cs) => if xs.length = 1 ∧ xs.all PV.solid = true ∧ off + xs.length ≤ cs.length then some (s.set id (some (.cells (writeAt cs off xs)))) else none | _ => none) | none => none := evStore_U lay48
theorem alc48 : alc Try.prog 48 = some [.lit .nilFunc] := by kernel_rfl
@[simp] theorem al48 : ∀ (s : Sto), evAlloc Try.prog s 48 = some (.ptr s.next 0, s.push (.cells [.lit .nilFunc])) := evAlloc_eq alc48
theorem lay49 : lay Try.prog 49 = some (false, 1) := by kernel_rfl
@[simp] theorem ld49 : ∀ (cs : List PV) (off : Nat), loadFrom Try.prog 49 cs off = cs[off]? := loadFrom_one lay49
@[simp] theorem st49 : ∀ (s : Sto) (id off : Nat) (q : PV), evStore Try.prog s 49 (.ptr id off) q = match cellsOf q with | some xs => (match s.get id with | some (.cells cs) => if xs.length = 1 ∧ xs.all PV.solid = true ∧ off + xs.length ≤ cs.length then some (s.set id (some (.cells (writeAt cs off xs)))) else none | _ => none) | none => none := evStore_U lay49
theorem alc49 : alc Try.prog 49 = some [.lit .nilFunc] := by kernel_rfl
@[simp] theorem al49 : ∀ (s : Sto), evAlloc Try.prog s 49 = some (.ptr s.next 0, s.push (.cells [.lit .nilFunc])) := evAlloc_eq alc49
theorem lay50 : lay Try.prog 50 = some (false, 1) := by kernel_rfl
@[simp] theorem ld50 : ∀ (cs : List PV) (off : Nat), loadFrom Try.prog 50 cs off = cs[off]? := loadFrom_one lay50
@[simp] theorem st50 : ∀ (s : Sto) (id off : Nat) (q : PV), evStore Try.prog s 50 (.ptr id off) q = match cellsOf q with | some xs => (match s.get id with | some (.cells cs) => if xs.length = 1 ∧ xs.all PV.solid = true ∧ off + xs.length ≤ cs.length then some (s.set id (some (.cells (writeAt cs off xs)))) else none | _ => none) | none => none := evStore_U lay50
theorem alc50 : alc Try.prog 50 = some [.lit .nilFunc] := by kernel_rfl
@[simp] theorem al50 : ∀ (s : Sto), evAlloc Try.prog s 50 = some (.ptr s.next 0, s.push (.cells [.lit .nilFunc])) := evAlloc_eq alc50
theorem lay51 : lay Try.prog 51 = some (false, 1) := by kernel_rfl
@[simp] theorem ld51 : ∀ (cs : List PV) (off : Nat), loadFrom Try.prog 51 cs off = cs[off]? := loadFrom_one lay51
@[simp] theorem st51 : ∀ (s : Sto) (id off : Nat) (q : PV), evStore Try.prog s 51 (.ptr id off) q = match cellsOf q with | some xs => (match s.get id with | some (.cells cs) => if xs.length = 1 ∧ xs.all PV.solid = true ∧ off + xs.length ≤ cs.length then some (s.set id (some (.cells (writeAt cs off xs)))) else none | _ => none) | none => none := evStore_U lay51
theorem alc51 : alc Try.prog 51 = some [.lit .nilFunc] := by kernel_rfl
@[simp] theorem al51 : ∀ (s : Sto), evAlloc Try.prog s 51 = some (.ptr s.next 0, s.push (.cells [.lit .nilFunc])) := evAlloc_eq alc51
theorem lay52 : lay Try.prog 52 = some (false, 1) := by kernel_rfl
@[simp] theorem ld52 : ∀ (cs : List PV) (off : Nat), loadFrom Try.prog 52 cs off = cs[off]? := loadFrom_one lay52
@[simp] theorem st52 : ∀ (s : Sto) (id off : Nat) (q : PV), evStore Try.prog s 52 (.ptr id off) q = match cellsOf q with | some xs => (match s.get id with | some (.cells cs) => if xs.length = 1 ∧ xs.all PV.solid = true ∧ off + xs.length ≤ cs.length then some (s.set id (some (.cells (writeAt cs off xs)))) else none | _ => none) | none => none := evStore_U lay52
theorem alc52 : alc Try.prog 52 = some [.lit .nilFunc] := by kernel_rfl
@[simp] theorem al52 : ∀ (s : Sto), evAlloc Try.prog s 52 = some (.ptr s.next 0, s.push (.cells [.lit .nilFunc])) := evAlloc_eq alc52
theorem lay53 : lay Try.prog 53 = some (false, 1) := by kernel_rfl
@[simp] theorem ld53 : ∀ (cs : List PV) (off : Nat), loadFrom Try.prog 53 cs off = cs[off]? := loadFrom_one lay53
@[simp] theorem st53 : ∀ (s : Sto) (id off : Nat) (q : PV), evStore Try.prog s 53 (.ptr id off) q = match cellsOf q with | some xs => (match s.get id with | some (.cells cs) => if xs.length = 1 ∧ xs.all PV.solid = true ∧ off + xs.length ≤ cs.length then some (s.set id (some (.cells (writeAt cs off xs)))) else none | _ => none) | none => none := evStore_U lay53
theorem alc53 : alc Try.prog 53 = some [.lit .nilFunc] := by kernel_rfl
@[simp] theorem al53 : ∀ (s : Sto), evAlloc Try.prog s 53 = some (.ptr s.next 0, s.push (.cells [.lit .nilFunc])) := evAlloc_eq alc53
theorem lay54 : lay Try.prog 54 = some (false, 1) := by kernel_rfl
@[simp] theorem ld54 : ∀ (cs : List PV) (off : Nat), loadFrom Try.prog 54 cs off = cs[off]? := loadFrom_one lay54
@[simp] theorem st54 : ∀ (s : Sto) (id off : Nat) (q : PV), evStore Try.prog s 54 (.ptr id off) q = match cellsOf q with | some xs => (match s.get id with | some (.cells cs) => if xs.length = 1 ∧ xs.all PV.solid = true ∧ off + xs.length ≤ cs.length then some (s.set id (some (.cells (writeAt cs off xs)))) else none | _ => none) | none => none := evStore_U lay54
theorem alc54 : alc Try.prog 54 = some [.lit .nilFunc] := by kernel_rfl
@[simp] theorem al54 : ∀ (s : Sto), evAlloc Try.prog s 54 = some (.ptr s.next 0, s.push (.cells [.lit .nilFunc])) := evAlloc_eq alc54
theorem lay55 : lay Try.prog 55 = some (true, 4) := by kernel_rfl
@[simp] theorem ld55 : ∀ (cs : List PV) (off : Nat), loadFrom Try.prog 55 cs off = if off + 4 ≤ cs.length then some (.agg ((cs.drop off).take 4)) else none := loadFrom_A lay55
@[simp] theorem st55 : ∀ (s : Sto) (id off : Nat) (q : PV), evStore Try.prog s 55 (.ptr id off) q = match cellsOf q with | some xs => (match s.get id with | some (.cells cs) => if xs.length = 4 ∧ xs.all PV.solid = true ∧ off + xs.length ≤ cs.length then some (s.set id (some (.cells (writeAt cs off xs)))) else none | _ => none) | none => none := evStore_U lay55
theorem foff55_0 : foff Try.prog 55 0 = some (0, 1, 17) := by kernel_rfl
@[simp] theorem fp55_0 : ∀ (id off : Nat), evFieldAddr Try.prog 55 (.ptr id off) 0 = some (.ptr id (off + 0)) := evFieldAddr_ptr foff55_0
@[simp] theorem fr55_0 : ∀ (cs : List PV), evFieldAddr Try.prog 55 (.rptr cs) 0 = some (.rptr (cs.drop 0)) := evFieldAddr_rptr foff55_0
@[simp] theorem fa55_0 : ∀ (cs : List PV), evField Try.prog 55 (.agg cs) 0 = loadFrom Try.prog 17 cs 0 := evField_agg foff55_0
theorem foff55_1 : foff Try.prog 55 1 = some (1, 1, 17) := by kernel_rfl
@[simp] theorem fp55_1 : ∀ (id off : Nat), evFieldAddr Try.prog 55 (.ptr id off) 1 = some (.ptr id (off + 1)) := evFieldAddr_ptr foff55_1
@[simp] theorem fr55_1 : ∀ (cs : List PV), evFieldAddr Try.prog 55 (.rptr cs) 1 = some (.rptr (cs.drop 1)) := evFieldAddr_rptr foff55_1
@[simp] theorem fa55_1 : ∀ (cs : List PV), evField Try.prog 55 (.agg cs) 1 = loadFrom Try.prog 17 cs 1 := evField_agg foff55_1
theorem foff55_2 : foff Try.prog 55 2 = some (2, 1, 17) := by kernel_rfl
@[simp] theorem fp55_2 : ∀ (id off : Nat), evFieldAddr Try.prog 55 (.ptr id off) 2 = some (.ptr id (off + 2)) := evFieldAddr_ptr foff55_2
@[simp] theorem fr55_2 : ∀ (cs : List PV), evFieldAddr Try.prog 55 (.rptr cs) 2 = some (.rptr (cs.drop 2)) := evFieldAddr_rptr foff55_2
@[simp] theorem fa55_2 : ∀ (cs : List PV), evField Try.prog 55 (.agg cs) 2 = loadFrom Try.prog 17 cs 2 := evField_agg foff55_2
theorem foff55_3 : foff Try.prog 55 3 = some (3, 1, 9) := by kernel_rfl
@[simp] theorem fp55_3 : ∀ (id off : Nat), evFieldAddr Try.prog 55 (.ptr id off) 3 = some (.ptr id (off + 3)) := evFieldAddr_ptr foff55_3
@[simp] theorem fr55_3 : ∀ (cs : List PV), evFieldAddr Try.prog 55 (.rptr cs) 3 = some (.rptr (cs.drop 3)) := evFieldAddr_rptr foff55_3
@[simp] theorem fa55_3 : ∀ (cs : List PV), evField Try.prog 55 (.agg cs) 3 = loadFrom Try.prog 9 cs 3 := evField_agg foff55_3
theorem alc55 : alc Try.prog 55 = some [.lit (.pointer none), .lit (.pointer none), .lit (.pointer none), .lit (.string ⟨#[]⟩)] := by kernel_rfl
@[simp] theorem al55 : ∀ (s : Sto), evAlloc Try.prog s 55 = some (.ptr s.next 0, s.push (.cells [.lit (.pointer none), .lit (.pointer none), .lit (.pointer none), .lit (.string ⟨#[]⟩)])) := evAlloc_eq alc55
theorem bld55 : bld Try.prog 55 = some ([.lit (.pointer none), .lit (.pointer none), .lit (.pointer none), .lit (.string ⟨#[]⟩)], [(0, 1), (1, 1), (2, 1), (3, 1)]) := by kernel_rfl
@[simp] theorem bd55 : ∀ (e : Env) (parts : Array (Nat × Operand)), evBuild Try.prog e 55 parts = (fillP ((([.lit (.pointer none), .lit (.pointer none), .lit (.pointer none), .lit (.string ⟨#[]⟩)], [(0, 1), (1, 1), (2, 1), (3, 1)]) : List PV × List (Nat × Nat)).2[·]?) e (([.lit (.pointer none), .lit (.pointer none), .lit (.pointer none), .lit (.string ⟨#[]⟩)], [(0, 1), (1, 1), (2, 1), (3, 1)]) : List PV × List (Nat × Nat)).1 parts.toList).map .agg := evBuild_eq bld55
theorem lay56 : lay Try.prog 56 = some (true, 4) := by kernel_rfl
@[simp] theorem ld56 : ∀ (cs : List PV) (off : Nat), loadFrom Try.prog 56 cs off = if off + 4 ≤ cs.length then some (.agg ((cs.drop off).take 4)) else none := loadFrom_A lay56
@[simp] theorem st56 : ∀ (s : Sto) (id off : Nat) (q : PV), evStore Try.prog s 56 (.ptr id off) q = match cellsOf q with | some xs => (match s.get id with | some (.cells cs) => if xs.length = 4 ∧ xs.all PV.solid = true ∧ off + xs.length ≤ cs.length then some (s.set id (some (.cells (writeAt cs off xs)))) else none | _ => none) | none => none := evStore_U lay56
theorem foff56_0 : foff Try.prog 56 0 = some (0, 1, 17) := by kernel_rfl
@[simp] theorem fp56_0 : ∀ (id off : Nat), evFieldAddr Try.prog 56 (.ptr id off) 0 = some (.ptr id (off + 0)) := evFieldAddr_ptr foff56_0
@[simp] theorem fr56_0 : ∀ (cs : List PV), evFieldAddr Try.prog 56 (.rptr cs) 0 = some (.rptr (cs.drop 0)) := evFieldAddr_rptr foff56_0
@[simp] theorem fa56_0 : ∀ (cs : List PV), evField Try.prog 56 (.agg cs) 0 = loadFrom Try.prog 17 cs 0 := evField_agg foff56_0
theorem foff56_1 : foff Try.prog 56 1 = some (1, 1, 17) := by kernel_rfl
@[simp] theorem fp56_1 : ∀ (id off : Nat), evFieldAddr Try.prog 56 (.ptr id off) 1 = some (.ptr id (off + 1)) := evFieldAddr_ptr foff56_1
@[simp] theorem fr56_1 : ∀ (cs : List PV), evFieldAddr Try.prog 56 (.rptr cs) 1 = some (.rptr (cs.drop 1)) := evFieldAddr_rptr foff56_1
@[simp] theorem fa56_1 : ∀ (cs : List PV), evField Try.prog 56 (.agg cs) 1 = loadFrom Try.prog 17 cs 1 := evField_agg foff56_1
theorem foff56_2 : foff Try.prog 56 2 = some (2, 1, 17) := by kernel_rfl
@[simp] theorem fp56_2 : ∀ (id off : Nat), evFieldAddr Try.prog 56 (.ptr id off) 2 = some (.ptr id (off + 2)) := evFieldAddr_ptr foff56_2
@[simp] theorem fr56_2 : ∀ (cs : List PV), evFieldAddr Try.prog 56 (.rptr cs) 2 = some (.rptr (cs.drop 2)) := evFieldAddr_rptr foff56_2
@[simp] theorem fa56_2 : ∀ (cs : List PV), evField Try.prog 56 (.agg cs) 2 = loadFrom Try.prog 17 cs 2 := evField_agg foff56_2
theorem foff56_3 : foff Try.prog 56 3 = some (3, 1, 9) := by kernel_rfl
@[simp] theorem fp56_3 : ∀ (id off : Nat), evFieldAddr Try.prog 56 (.ptr id off) 3 = some (.ptr id (off + 3)) := evFieldAddr_ptr foff56_3
@[simp] theorem fr56_3 : ∀ (cs : List PV), evFieldAddr Try.prog 56 (.rptr cs) 3 = some (.rptr (cs.drop 3)) := evFieldAddr_rptr foff56_3
@[simp] theorem fa56_3 : ∀ (cs : List PV), evField Try.prog 56 (.agg cs) 3 = loadFrom Try.prog 9 cs 3 := evField_agg foff56_3
theorem alc56 : alc Try.prog 56 = some [.lit (.pointer none), .lit (.pointer none), .lit (.pointer none), .lit (.string ⟨#[]⟩)] := by kernel_rfl
@[simp] theorem al56 : ∀ (s : Sto), evAlloc Try.prog s 56 = some (.ptr s.next 0, s.push (.cells [.lit (.pointer none), .lit (.pointer none), .lit (.pointer none), .lit (.string ⟨#[]⟩)])) := evAlloc_eq alc56
theorem bld56 : bld Try.prog 56 = some ([.lit (.pointer none), .lit (.pointer none), .lit (.pointer none), .lit (.string ⟨#[]⟩)], [(0, 1), (1, 1), (2, 1), (3, 1)]) := by kernel_rfl
@[simp] theorem bd56 : ∀ (e : Env) (parts : Array (Nat × Operand)), evBuild Try.prog e 56 parts = (fillP ((([.lit (.pointer none), .lit (.pointer none), .lit (.pointer none), .lit (.string ⟨#[]⟩)], [(0, 1), (1, 1), (2, 1), (3, 1)]) : List PV × List (Nat × Nat)).2[·]?) e (([.lit (.pointer none), .lit (.pointer none), .lit (.pointer none), .lit (.string ⟨#[]⟩)], [(0, 1), (1, 1), (2, 1), (3, 1)]) : List PV × List (Nat × Nat)).1 parts.toList).map .agg := evBuild_eq bld56
theorem lay57 : lay Try.prog 57 = some (true, 0) := by kernel_rfl
@[simp] theorem ld57 : ∀ (cs : List PV) (off : Nat), loadFrom Try.prog 57 cs off = if off + 0 ≤ cs.length then some (.agg ((cs.drop off).take 0)) else none := loadFrom_A lay57
@[simp] theorem st57 : ∀ (s : Sto) (id off : Nat) (q : PV), evStore Try.prog s 57 (.ptr id off) q = match cellsOf q with | some xs => (match s.get id with | some (.cells cs) => if xs.length = 0 ∧ xs.all PV.solid = true ∧ off + xs.length ≤ cs.length then some (s.set id (some (.cells (writeAt cs off xs)))) else none | _ => none) | none => none := evStore_U lay57
theorem elay57 : elay Try.prog 57 = some ((some 0), 1) := by kernel_rfl
@[simp] theorem ix57 : ∀ (q : PV) (k : IntKind) (i : Int), evIndexAddr Try.prog 57 q (.lit (.int k i)) = if 0 ≤ i ∧ i.toNat < 0 then moved q (i.toNat * 1) else none := evIndexAddr_A elay57
theorem alc57 : alc Try.prog 57 = some [] := by kernel_rfl
@[simp] theorem al57 : ∀ (s : Sto), evAlloc Try.prog s 57 = some (.ptr s.next 0, s.push (.cells [])) := evAlloc_eq alc57
theorem lay58 : lay Try.prog 58 = some (true, 0) := by kernel_rfl
@[simp] theorem ld58 : ∀ (cs : List PV) (off : Nat), loadFrom Try.prog 58 cs off = if off + 0 ≤ cs.length then some (.agg ((cs.drop off).take 0)) else none := loadFrom_A lay58
@[simp] theorem st58 : ∀ (s : Sto) (id off : Nat) (q : PV), evStore Try.prog s 58 (.ptr id off) q = match cellsOf q with | some xs => (match s.get id with | some (.cells cs) => if xs.length = 0 ∧ xs.all PV.solid = true ∧ off + xs.length ≤ cs.length then some (s.set id (some (.cells (writeAt cs off xs)))) else none | _ => none) | none => none := evStore_U lay58
theorem foff58_0 : foff Try.prog 58 0 = some (0, 0, 57) := by kernel_rfl
theorem alc58 : alc Try.prog 58 = some [] := by kernel_rfl
@[simp] theorem al58 : ∀ (s : Sto), evAlloc Try.prog s 58 = some (.ptr s.next 0, s.push (.cells [])) := evAlloc_eq alc58
theorem bld58 : bld Try.prog 58 = some ([], [(0, 0)]) := by kernel_rfl
@[simp] theorem bd58 : ∀ (e : Env) (parts : Array (Nat × Operand)), evBuild Try.prog e 58 parts = (fillP ((([], [(0, 0)]) : List PV × List (Nat × Nat)).2[·]?) e (([], [(0, 0)]) : List PV × List (Nat × Nat)).1 parts.toList).map .agg := evBuild_eq bld58
theorem lay59 : lay Try.prog 59 = some (true, 0) := by kernel_rfl
@[simp] theorem ld59 : ∀ (cs : List PV) (off : Nat), loadFrom Try.prog 59 cs off = if off + 0 ≤ cs.length then some (.agg ((cs.drop off).take 0)) else none := loadFrom_A lay59
@[simp] theorem st59 : ∀ (s : Sto) (id off : Nat) (q : PV), evStore Try.prog s 59 (.ptr id off) q = match cellsOf q with | some xs => (match s.get id with | some (.cells cs) => if xs.length = 0 ∧ xs.all PV.solid = true ∧ off + xs.length ≤ cs.length then some (s.set id (some (.cells (writeAt cs off xs)))) else none | _ => none) | none => none := evStore_U lay59
theorem foff59_0 : foff Try.prog 59 0 = some (0, 0, 57) := by kernel_rfl
theorem alc59 : alc Try.prog 59 = some [] := by kernel_rfl
@[simp] theorem al59 : ∀ (s : Sto), evAlloc Try.prog s 59 = some (.ptr s.next 0, s.push (.cells [])) := evAlloc_eq alc59
theorem bld59 : bld Try.prog 59 = some ([], [(0, 0)]) := by kernel_rfl
@[simp] theorem bd59 : ∀ (e : Env) (parts : Array (Nat × Operand)), evBuild Try.prog e 59 parts = (fillP ((([], [(0, 0)]) : List PV × List (Nat × Nat)).2[·]?) e (([], [(0, 0)]) : List PV × List (Nat × Nat)).1 parts.toList).map .agg := evBuild_eq bld59
theorem lay60 : lay Try.prog 60 = some (false, 1) := by kernel_rfl
@[simp] theorem ld60 : ∀ (cs : List PV) (off : Nat), loadFrom Try.prog 60 cs off = cs[off]? := loadFrom_one lay60
@[simp] theorem st60 : ∀ (s : Sto) (id off : Nat) (q : PV), evStore Try.prog s 60 (.ptr id off) q = match cellsOf q with | some xs => (match s.get id with | some (.cells cs) => if xs.length = 1 ∧ xs.all PV.solid = true ∧ off + xs.length ≤ cs.length then some (s.set id (some (.cells (writeAt cs off xs)))) else none | _ => none) | none => none := evStore_U lay60
theorem alc60 : alc Try.prog 60 = some [.lit .nilFunc] := by kernel_rfl
@[simp] theorem al60 : ∀ (s : Sto), evAlloc Try.prog s 60 = some (.ptr s.next 0, s.push (.cells [.lit .nilFunc])) := evAlloc_eq alc60
theorem lay61 : lay Try.prog 61 = some (false, 1) := by kernel_rfl
@[simp] theorem ld61 : ∀ (cs : List PV) (off : Nat), loadFrom Try.prog 61 cs off = cs[off]? := loadFrom_one lay61
@[simp] theorem st61 : ∀ (s : Sto) (id off : Nat) (q : PV), evStore Try.prog s 61 (.ptr id off) q = match cellsOf q with | some xs => (match s.get id with | some (.cells cs) => if xs.length = 1 ∧ xs.all PV.solid = true ∧ off + xs.length ≤ cs.length then some (s.set id (some (.cells (writeAt cs off xs)))) else none | _ => none) | none => none := evStore_U lay61
theorem alc61 : alc Try.prog 61 = some [.lit (.int .u32 (0))] := by kernel_rfl
@[simp] theorem al61 : ∀ (s : Sto), evAlloc Try.prog s 61 = some (.ptr s.next 0, s.push (.cells [.lit (.int .u32 (0))])) := evAlloc_eq alc61
theorem lay62 : lay Try.prog 62 = some (false, 1) := by kernel_rfl
@[simp] theorem ld62 : ∀ (cs : List PV) (off : Nat), loadFrom Try.prog 62 cs off = cs[off]? := loadFrom_one lay62
@[simp] theorem st62 : ∀ (s : Sto) (id off : Nat) (q : PV), evStore Try.prog s 62 (.ptr id off) q = match cellsOf q with | some xs => (match s.get id with | some (.cells cs) => if xs.length = 1 ∧ xs.all PV.solid = true ∧ off + xs.length ≤ cs.length then some (s.set id (some (.cells (writeAt cs off xs)))) else none | _ => none) | none => none := evStore_U lay62
theorem alc62 : alc Try.prog 62 = some [.lit (.int .u8 (0))] := by kernel_rfl
@[simp] theorem al62 : ∀ (s : Sto), evAlloc Try.prog s 62 = some (.ptr s.next 0, s.push (.cells [.lit (.int .u8 (0))])) := evAlloc_eq alc62
theorem lay63 : lay Try.prog 63 = some (false, 1) := by kernel_rfl
@[simp] theorem ld63 : ∀ (cs : List PV) (off : Nat), loadFrom Try.prog 63 cs off = cs[off]? := loadFrom_one lay63
@[simp] theorem st63 : ∀ (s : Sto) (id off : Nat) (q : PV), evStore Try.prog s 63 (.ptr id off) q = match cellsOf q with | some xs => (match s.get id with | some (.cells cs) => if xs.length = 1 ∧ xs.all PV.solid = true ∧ off + xs.length ≤ cs.length then some (s.set id (some (.cells (writeAt cs off xs)))) else none | _ => none) | none => none := evStore_U lay63
theorem alc63 : alc Try.prog 63 = some [.lit (.int .u8 (0))] := by kernel_rfl
@[simp] theorem al63 : ∀ (s : Sto), evAlloc Try.prog s 63 = some (.ptr s.next 0, s.push (.cells [.lit (.int .u8 (0))])) := evAlloc_eq alc63
theorem lay64 : lay Try.prog 64 = some (false, 1) := by kernel_rfl
@[simp] theorem ld64 : ∀ (cs : List PV) (off : Nat), loadFrom Try.prog 64 cs off = cs[off]? := loadFrom_one lay64
@[simp] theorem st64 : ∀ (s : Sto) (id off : Nat) (q : PV), evStore Try.prog s 64 (.ptr id off) q = match cellsOf q with | some xs => (match s.get id with | some (.cells cs) => if xs.length = 1 ∧ xs.all PV.solid = true ∧ off + xs.length ≤ cs.length then some (s.set id (some (.cells (writeAt cs off xs)))) else none | _ => none) | none => none := evStore_U lay64
theorem alc64 : alc Try.prog 64 = some [.lit .nilFunc] := by kernel_rfl
@[simp] theorem al64 : ∀ (s : Sto), evAlloc Try.prog s 64 = some (.ptr s.next 0, s.push (.cells [.lit .nilFunc])) := evAlloc_eq alc64
theorem lay65 : lay Try.prog 65 = some (false, 1) := by kernel_rfl
@[simp] theorem ld65 : ∀ (cs : List PV) (off : Nat), loadFrom Try.prog 65 cs off = cs[off]? := loadFrom_one lay65
@[simp] theorem st65 : ∀ (s : Sto) (id off : Nat) (q : PV), evStore Try.prog s 65 (.ptr id off) q = match cellsOf q with | some xs => (match s.get id with | some (.cells cs) => if xs.length = 1 ∧ xs.all PV.solid = true ∧ off + xs.length ≤ cs.length then some (s.set id (some (.cells (writeAt cs off xs)))) else none | _ => none) | none => none := evStore_U lay65
theorem alc65 : alc Try.prog 65 = some [.lit (.pointer none)] := by kernel_rfl
@[simp] theorem al65 : ∀ (s : Sto), evAlloc Try.prog s 65 = some (.ptr s.next 0, s.push (.cells [.lit (.pointer none)])) := evAlloc_eq alc65
theorem lay66 : lay Try.prog 66 = some (false, 1) := by kernel_rfl
@[simp] theorem ld66 : ∀ (cs : List PV) (off : Nat), loadFrom Try.prog 66 cs off = cs[off]? := loadFrom_one lay66
@[simp] theorem st66 : ∀ (s : Sto) (id off : Nat) (q : PV), evStore Try.prog s 66 (.ptr id off) q = match cellsOf q with | some xs => (match s.get id with | some (.cells cs) => if xs.length = 1 ∧ xs.all PV.solid = true ∧ off + xs.length ≤ cs.length then some (s.set id (some (.cells (writeAt cs off xs)))) else none | _ => none) | none => none := evStore_U lay66
theorem alc66 : alc Try.prog 66 = some [.lit (.int .i32 (0))] := by kernel_rfl
@[simp] theorem al66 : ∀ (s : Sto), evAlloc Try.prog s 66 = some (.ptr s.next 0, s.push (.cells [.lit (.int .i32 (0))])) := evAlloc_eq alc66
theorem lay67 : lay Try.prog 67 = some (false, 1) := by kernel_rfl
@[simp] theorem ld67 : ∀ (cs : List PV) (off : Nat), loadFrom Try.prog 67 cs off = cs[off]? := loadFrom_one lay67
@[simp] theorem st67 : ∀ (s : Sto) (id off : Nat) (q : PV), evStore Try.prog s 67 (.ptr id off) q = match cellsOf q with | some xs => (match s.get id with | some (.cells cs) => if xs.length = 1 ∧ xs.all PV.solid = true ∧ off + xs.length ≤ cs.length then some (s.set id (some (.cells (writeAt cs off xs)))) else none | _ => none) | none => none := evStore_U lay67
theorem alc67 : alc Try.prog 67 = some [.lit (.int .i32 (0))] := by kernel_rfl
@[simp] theorem al67 : ∀ (s : Sto), evAlloc Try.prog s 67 = some (.ptr s.next 0, s.push (.cells [.lit (.int .i32 (0))])) := evAlloc_eq alc67
theorem lay68 : lay Try.prog 68 = some (true, 11) := by kernel_rfl
@[simp] theorem ld68 : ∀ (cs : List PV) (off : Nat), loadFrom Try.prog 68 cs off = if off + 11 ≤ cs.length then some (.agg ((cs.drop off).take 11)) else none := loadFrom_A lay68
@[simp] theorem st68 : ∀ (s : Sto) (id off : Nat) (q : PV), evStore Try.prog s 68 (.ptr id off) q = match cellsOf q with | some xs => (match s.get id with | some (.cells cs) => if xs.length = 11 ∧ xs.all PV.solid = true ∧ off + xs.length ≤ cs.length then some (s.set id (some (.cells (writeAt cs off xs)))) else none | _ => none) | none => none := evStore_U lay68
theorem foff68_0 : foff Try.prog 68 0 = some (0, 1, 12) := by kernel_rfl
@[simp] theorem fp68_0 : ∀ (id off : Nat), evFieldAddr Try.prog 68 (.ptr id off) 0 = some (.ptr id (off + 0)) := evFieldAddr_ptr foff68_0
@[simp] theorem fr68_0 : ∀ (cs : List PV), evFieldAddr Try.prog 68 (.rptr cs) 0 = some (.rptr (cs.drop 0)) := evFieldAddr_rptr foff68_0
@[simp] theorem fa68_0 : ∀ (cs : List PV), evField Try.prog 68 (.agg cs) 0 = loadFrom Try.prog 12 cs 0 := evField_agg foff68_0
theorem foff68_1 : foff Try.prog 68 1 = some (1, 1, 12) := by kernel_rfl
@[simp] theorem fp68_1 : ∀ (id off : Nat), evFieldAddr Try.prog 68 (.ptr id off) 1 = some (.ptr id (off + 1)) := evFieldAddr_ptr foff68_1
@[simp] theorem fr68_1 : ∀ (cs : List PV), evFieldAddr Try.prog 68 (.rptr cs) 1 = some (.rptr (cs.drop 1)) := evFieldAddr_rptr foff68_1
@[simp] theorem fa68_1 : ∀ (cs : List PV), evField Try.prog 68 (.agg cs) 1 = loadFrom Try.prog 12 cs 1 := evField_agg foff68_1
theorem foff68_2 : foff Try.prog 68 2 = some (2, 1, 61) := by kernel_rfl
@[simp] theorem fp68_2 : ∀ (id off : Nat), evFieldAddr Try.prog 68 (.ptr id off) 2 = some (.ptr id (off + 2)) := evFieldAddr_ptr foff68_2
@[simp] theorem fr68_2 : ∀ (cs : List PV), evFieldAddr Try.prog 68 (.rptr cs) 2 = some (.rptr (cs.drop 2)) := evFieldAddr_rptr foff68_2
@[simp] theorem fa68_2 : ∀ (cs : List PV), evField Try.prog 68 (.agg cs) 2 = loadFrom Try.prog 61 cs 2 := evField_agg foff68_2
theorem foff68_3 : foff Try.prog 68 3 = some (3, 1, 62) := by kernel_rfl
@[simp] theorem fp68_3 : ∀ (id off : Nat), evFieldAddr Try.prog 68 (.ptr id off) 3 = some (.ptr id (off + 3)) := evFieldAddr_ptr foff68_3
@[simp] theorem fr68_3 : ∀ (cs : List PV), evFieldAddr Try.prog 68 (.rptr cs) 3 = some (.rptr (cs.drop 3)) := evFieldAddr_rptr foff68_3
@[simp] theorem fa68_3 : ∀ (cs : List PV), evField Try.prog 68 (.agg cs) 3 = loadFrom Try.prog 62 cs 3 := evField_agg foff68_3
theorem foff68_4 : foff Try.prog 68 4 = some (4, 1, 5) := by kernel_rfl
@[simp] theorem fp68_4 : ∀ (id off : Nat), evFieldAddr Try.prog 68 (.ptr id off) 4 = some (.ptr id (off + 4)) := evFieldAddr_ptr foff68_4
@[simp] theorem fr68_4 : ∀ (cs : List PV), evFieldAddr Try.prog 68 (.rptr cs) 4 = some (.rptr (cs.drop 4)) := evFieldAddr_rptr foff68_4
@[simp] theorem fa68_4 : ∀ (cs : List PV), evField Try.prog 68 (.agg cs) 4 = loadFrom Try.prog 5 cs 4 := evField_agg foff68_4
theorem foff68_5 : foff Try.prog 68 5 = some (5, 1, 5) := by kernel_rfl
@[simp] theorem fp68_5 : ∀ (id off : Nat), evFieldAddr Try.prog 68 (.ptr id off) 5 = some (.ptr id (off + 5)) := evFieldAddr_ptr foff68_5
@[simp] theorem fr68_5 : ∀ (cs : List PV), evFieldAddr Try.prog 68 (.rptr cs) 5 = some (.rptr (cs.drop 5)) := evFieldAddr_rptr foff68_5
@[simp] theorem fa68_5 : ∀ (cs : List PV), evField Try.prog 68 (.agg cs) 5 = loadFrom Try.prog 5 cs 5 := evField_agg foff68_5
theorem foff68_6 : foff Try.prog 68 6 = some (6, 1, 63) := by kernel_rfl
@[simp] theorem fp68_6 : ∀ (id off : Nat), evFieldAddr Try.prog 68 (.ptr id off) 6 = some (.ptr id (off + 6)) := evFieldAddr_ptr foff68_6
@[simp] theorem fr68_6 : ∀ (cs : List PV), evFieldAddr Try.prog 68 (.rptr cs) 6 = some (.rptr (cs.drop 6)) := evFieldAddr_rptr foff68_6
@[simp] theorem fa68_6 : ∀ (cs : List PV), evField Try.prog 68 (.agg cs) 6 = loadFrom Try.prog 63 cs 6 := evField_agg foff68_6
theorem foff68_7 : foff Try.prog 68 7 = some (7, 1, 64) := by kernel_rfl
@[simp] theorem fp68_7 : ∀ (id off : Nat), evFieldAddr Try.prog 68 (.ptr id off) 7 = some (.ptr id (off + 7)) := evFieldAddr_ptr foff68_7
@[simp] theorem fr68_7 : ∀ (cs : List PV), evFieldAddr Try.prog 68 (.rptr cs) 7 = some (.rptr (cs.drop 7)) := evFieldAddr_rptr foff68_7
@[simp] theorem fa68_7 : ∀ (cs : List PV), evField Try.prog 68 (.agg cs) 7 = loadFrom Try.prog 64 cs 7 := evField_agg foff68_7
theorem foff68_8 : foff Try.prog 68 8 = some (8, 1, 65) := by kernel_rfl
@[simp] theorem fp68_8 : ∀ (id off : Nat), evFieldAddr Try.prog 68 (.ptr id off) 8 = some (.ptr id (off + 8)) := evFieldAddr_ptr foff68_8
@[simp] theorem fr68_8 : ∀ (cs : List PV), evFieldAddr Try.prog 68 (.rptr cs) 8 = some (.rptr (cs.drop 8)) := evFieldAddr_rptr foff68_8
@[simp] theorem fa68_8 : ∀ (cs : List PV), evField Try.prog 68 (.agg cs) 8 = loadFrom Try.prog 65 cs 8 := evField_agg foff68_8
theorem foff68_9 : foff Try.prog 68 9 = some (9, 1, 66) := by kernel_rfl
@[simp] theorem fp68_9 : ∀ (id off : Nat), evFieldAddr Try.prog 68 (.ptr id off) 9 = some (.ptr id (off + 9)) := evFieldAddr_ptr foff68_9
@[simp] theorem fr68_9 : ∀ (cs : List PV), evFieldAddr Try.prog 68 (.rptr cs) 9 = some (.rptr (cs.drop 9)) := evFieldAddr_rptr foff68_9
@[simp] theorem fa68_9 : ∀ (cs : List PV), evField Try.prog 68 (.agg cs) 9 = loadFrom Try.prog 66 cs 9 := evField_agg foff68_9
theorem foff68_10 : foff Try.prog 68 10 = some (10, 1, 67) := by kernel_rfl
@[simp] theorem fp68_10 : ∀ (id off : Nat), evFieldAddr Try.prog 68 (.ptr id off) 10 = some (.ptr id (off + 10)) := evFieldAddr_ptr foff68_10
@[simp] theorem fr68_10 : ∀ (cs : List PV), evFieldAddr Try.prog 68 (.rptr cs) 10 = some (.rptr (cs.drop 10)) := evFieldAddr_rptr foff68_10
@[simp] theorem fa68_10 : ∀ (cs : List PV), evField Try.prog 68 (.agg cs) 10 = loadFrom Try.prog 67 cs 10 := evField_agg foff68_10
theorem alc68 : alc Try.prog 68 = some [.lit (.int .u64 (0)), .lit (.int .u64 (0)), .lit (.int .u32 (0)), .lit (.int .u8 (0)), .lit (.int .u8 (0)), .lit (.int .u8 (0)), .lit (.int .u8 (0)), .lit .nilFunc, .lit (.pointer none), .lit (.int .i32 (0)), .lit (.int .i32 (0))] := by kernel_rfl
@[simp] theorem al68 : ∀ (s : Sto), evAlloc Try.prog s 68 = some (.ptr s.next 0, s.push (.cells [.lit (.int .u64 (0)), .lit (.int .u64 (0)), .lit (.int .u32 (0)), .lit (.int .u8 (0)), .lit (.int .u8 (0)), .lit (.int .u8 (0)), .lit (.int .u8 (0)), .lit .nilFunc, .lit (.pointer none), .lit (.int .i32 (0)), .lit (.int .i32 (0))])) := evAlloc_eq alc68
theorem bld68 : bld Try.prog 68 = some ([.lit (.int .u64 (0)), .lit (.int .u64 (0)), .lit (.int .u32 (0)), .lit (.int .u8 (0)), .lit (.int .u8 (0)), .lit (.int .u8 (0)), .lit (.int .u8 (0)), .lit .nilFunc, .lit (.pointer none), .lit (.int .i32 (0)), .lit (.int .i32 (0))], [(0, 1), (1, 1), (2, 1), (3, 1), (4, 1), (5, 1), (6, 1), (7, 1), (8, 1), (9, 1), (10, 1)]) := by kernel_rfl
@[simp] theorem bd68 : ∀ (e : Env) (parts : Array (Nat × Operand)), evBuild Try.prog e 68 parts = (fillP ((([.lit (.int .u64 (0)), .lit (.int .u64 (0)), .lit (.int .u32 (0)), .lit (.int .u8 (0)), .lit (.int .u8 (0)), .lit (.int .u8 (0)), .lit (.int .u8 (0)), .lit .nilFunc, .lit (.pointer none), .lit (.int .i32 (0)), .lit (.int .i32 (0))], [(0, 1), (1, 1), (2, 1), (3, 1), (4, 1), (5, 1), (6, 1), (7, 1), (8, 1), (9, 1), (10, 1)]) : List PV × List (Nat × Nat)).2[·]?) e (([.lit (.int .u64 (0)), .lit (.int .u64 (0)), .lit (.int .u32 (0)), .lit (.int .u8 (0)), .lit (.int .u8 (0)), .lit (.int .u8 (0)), .lit (.int .u8 (0)), .lit .nilFunc, .lit (.pointer none), .lit (.int .i32 (0)), .lit (.int .i32 (0))], [(0, 1), (1, 1), (2, 1), (3, 1), (4, 1), (5, 1), (6, 1), (7, 1), (8, 1), (9, 1), (10, 1)]) : List PV × List (Nat × Nat)).1 parts.toList).map .agg := evBuild_eq bld68
theorem lay69 : lay Try.prog 69 = some (true, 11) := by kernel_rfl
@[simp] theorem ld69 : ∀ (cs : List PV) (off : Nat), loadFrom Try.prog 69 cs off = if off + 11 ≤ cs.length then some (.agg ((cs.drop off).take 11)) else none := loadFrom_A lay69
@[simp] theorem st69 : ∀ (s : Sto) (id off : Nat) (q : PV), evStore Try.prog s 69 (.ptr id off) q = match cellsOf q with | some xs => (match s.get id with | some (.cells cs) => if xs.length = 11 ∧ xs.all PV.solid = true ∧ off + xs.length ≤ cs.length then some (s.set id (some (.cells (writeAt cs off xs)))) else none | _ => none) | none => none := evStore_U lay69
theorem foff69_0 : foff Try.prog 69 0 = some (0, 1, 12) := by kernel_rfl
@[simp] theorem fp69_0 : ∀ (id off : Nat), evFieldAddr Try.prog 69 (.ptr id off) 0 = some (.ptr id (off + 0)) := evFieldAddr_ptr foff69_0
@[simp] theorem fr69_0 : ∀ (cs : List PV), evFieldAddr Try.prog 69 (.rptr cs) 0 = some (.rptr (cs.drop 0)) := evFieldAddr_rptr foff69_0
@[simp] theorem fa69_0 : ∀ (cs : List PV), evField Try.prog 69 (.agg cs) 0 = loadFrom Try.prog 12 cs 0 := evField_agg foff69_0
theorem foff69_1 : foff Try.prog 69 1 = some (1, 1, 12) := by kernel_rfl
@[simp] theorem fp69_1 : ∀ (id off : Nat), evFieldAddr Try.prog 69 (.ptr id off) 1 = some (.ptr id (off + 1)) := evFieldAddr_ptr foff69_1
@[simp] theorem fr69_1 : ∀ (cs : List PV), evFieldAddr Try.prog 69 (.rptr cs) 1 = some (.rptr (cs.drop 1)) := evFieldAddr_rptr foff69_1
@[simp] theorem fa69_1 : ∀ (cs : List PV), evField Try.prog 69 (.agg cs) 1 = loadFrom Try.prog 12 cs 1 := evField_agg foff69_1
theorem foff69_2 : foff Try.prog 69 2 = some (2, 1, 61) := by kernel_rfl
@[simp] theorem fp69_2 : ∀ (id off : Nat), evFieldAddr Try.prog 69 (.ptr id off) 2 = some (.ptr id (off + 2)) := evFieldAddr_ptr foff69_2
@[simp] theorem fr69_2 : ∀ (cs : List PV), evFieldAddr Try.prog 69 (.rptr cs) 2 = some (.rptr (cs.drop 2)) := evFieldAddr_rptr foff69_2
@[simp] theorem fa69_2 : ∀ (cs : List PV), evField Try.prog 69 (.agg cs) 2 = loadFrom Try.prog 61 cs 2 := evField_agg foff69_2
theorem foff69_3 : foff Try.prog 69 3 = some (3, 1, 62) := by kernel_rfl
@[simp] theorem fp69_3 : ∀ (id off : Nat), evFieldAddr Try.prog 69 (.ptr id off) 3 = some (.ptr id (off + 3)) := evFieldAddr_ptr foff69_3
@[simp] theorem fr69_3 : ∀ (cs : List PV), evFieldAddr Try.prog 69 (.rptr cs) 3 = some (.rptr (cs.drop 3)) := evFieldAddr_rptr foff69_3
@[simp] theorem fa69_3 : ∀ (cs : List PV), evField Try.prog 69 (.agg cs) 3 = loadFrom Try.prog 62 cs 3 := evField_agg foff69_3
theorem foff69_4 : foff Try.prog 69 4 = some (4, 1, 5) := by kernel_rfl
@[simp] theorem fp69_4 : ∀ (id off : Nat), evFieldAddr Try.prog 69 (.ptr id off) 4 = some (.ptr id (off + 4)) := evFieldAddr_ptr foff69_4
@[simp] theorem fr69_4 : ∀ (cs : List PV), evFieldAddr Try.prog 69 (.rptr cs) 4 = some (.rptr (cs.drop 4)) := evFieldAddr_rptr foff69_4
@[simp] theorem fa69_4 : ∀ (cs : List PV), evField Try.prog 69 (.agg cs) 4 = loadFrom Try.prog 5 cs 4 := evField_agg foff69_4
theorem foff69_5 : foff Try.prog 69 5 = some (5, 1, 5) := by kernel_rfl
@[simp] theorem fp69_5 : ∀ (id off : Nat), evFieldAddr Try.prog 69 (.ptr id off) 5 = some (.ptr id (off + 5)) := evFieldAddr_ptr foff69_5
@[simp] theorem fr69_5 : ∀ (cs : List PV), evFieldAddr Try.prog 69 (.rptr cs) 5 = some (.rptr (cs.drop 5)) := evFieldAddr_rptr foff69_5
@[simp] theorem fa69_5 : ∀ (cs : List PV), evField Try.prog 69 (.agg cs) 5 = loadFrom Try.prog 5 cs 5 := evField_agg foff69_5
theorem foff69_6 : foff Try.prog 69 6 = some (6, 1, 63) := by kernel_rfl
@[simp] theorem fp69_6 : ∀ (id off : Nat), evFieldAddr Try.prog 69 (.ptr id off) 6 = some (.ptr id (off + 6)) := evFieldAddr_ptr foff69_6
@[simp] theorem fr69_6 : ∀ (cs : List PV), evFieldAddr Try.prog 69 (.rptr cs) 6 = some (.rptr (cs.drop 6)) := evFieldAddr_rptr foff69_6
@[simp] theorem fa69_6 : ∀ (cs : List PV), evField Try.prog 69 (.agg cs) 6 = loadFrom Try.prog 63 cs 6 := evField_agg foff69_6
theorem foff69_7 : foff Try.prog 69 7 = some (7, 1, 64) := by kernel_rfl
@[simp] theorem fp69_7 : ∀ (id off : Nat), evFieldAddr Try.prog 69 (.ptr id off) 7 = some (.ptr id (off + 7)) := evFieldAddr_ptr foff69_7
@[simp] theorem fr69_7 : ∀ (cs : List PV), evFieldAddr Try.prog 69 (.rptr cs) 7 = some (.rptr (cs.drop 7)) := evFieldAddr_rptr foff69_7
@[simp] theorem fa69_7 : ∀ (cs : List PV), evField Try.prog 69 (.agg cs) 7 = loadFrom Try.prog 64 cs 7 := evField_agg foff69_7
theorem foff69_8 : foff Try.prog 69 8 = some (8, 1, 65) := by kernel_rfl
@[simp] theorem fp69_8 : ∀ (id off : Nat), evFieldAddr Try.prog 69 (.ptr id off) 8 = some (.ptr id (off + 8)) := evFieldAddr_ptr foff69_8
@[simp] theorem fr69_8 : ∀ (cs : List PV), evFieldAddr Try.prog 69 (.rptr cs) 8 = some (.rptr (cs.drop 8)) := evFieldAddr_rptr foff69_8
@[simp] theorem fa69_8 : ∀ (cs : List PV), evField Try.prog 69 (.agg cs) 8 = loadFrom Try.prog 65 cs 8 := evField_agg foff69_8
theorem foff69_9 : foff Try.prog 69 9 = some (9, 1, 66) := by kernel_rfl
@[simp] theorem fp69_9 : ∀ (id off : Nat), evFieldAddr Try.prog 69 (.ptr id off) 9 = some (.ptr id (off + 9)) := evFieldAddr_ptr foff69_9
@[simp] theorem fr69_9 : ∀ (cs : List PV), evFieldAddr Try.prog 69 (.rptr cs) 9 = some (.rptr (cs.drop 9)) := evFieldAddr_rptr foff69_9
@[simp] theorem fa69_9 : ∀ (cs : List PV), evField Try.prog 69 (.agg cs) 9 = loadFrom Try.prog 66 cs 9 := evField_agg foff69_9
theorem foff69_10 : foff Try.prog 69 10 = some (10, 1, 67) := by kernel_rfl
@[simp] theorem fp69_10 : ∀ (id off : Nat), evFieldAddr Try.prog 69 (.ptr id off) 10 = some (.ptr id (off + 10)) := evFieldAddr_ptr foff69_10
@[simp] theorem fr69_10 : ∀ (cs : List PV), evFieldAddr Try.prog 69 (.rptr cs) 10 = some (.rptr (cs.drop 10)) := evFieldAddr_rptr foff69_10
@[simp] theorem fa69_10 : ∀ (cs : List PV), evField Try.prog 69 (.agg cs) 10 = loadFrom Try.prog 67 cs 10 := evField_agg foff69_10
theorem alc69 : alc Try.prog 69 = some [.lit (.int .u64 (0)), .lit (.int .u64 (0)), .lit (.int .u32 (0)), .lit (.int .u8 (0)), .lit (.int .u8 (0)), .lit (.int .u8 (0)), .lit (.int .u8 (0)), .lit .nilFunc, .lit (.pointer none), .lit (.int .i32 (0)), .lit (.int .i32 (0))] := by kernel_rfl
@[simp] theorem al69 : ∀ (s : Sto), evAlloc Try.prog s 69 = some (.ptr s.next 0, s.push (.cells [.lit (.int .u64 (0)), .lit (.int .u64 (0)), .lit (.int .u32 (0)), .lit (.int .u8 (0)), .lit (.int .u8 (0)), .lit (.int .u8 (0)), .lit (.int .u8 (0)), .lit .nilFunc, .lit (.pointer none), .lit (.int .i32 (0)), .lit (.int .i32 (0))])) := evAlloc_eq alc69
theorem bld69 : bld Try.prog 69 = some ([.lit (.int .u64 (0)), .lit (.int .u64 (0)), .lit (.int .u32 (0)), .lit (.int .u8 (0)), .lit (.int .u8 (0)), .lit (.int .u8 (0)), .lit (.int .u8 (0)), .lit .nilFunc, .lit (.pointer none), .lit (.int .i32 (0)), .lit (.int .i32 (0))], [(0, 1), (1, 1), (2, 1), (3, 1), (4, 1), (5, 1), (6, 1), (7, 1), (8, 1), (9, 1), (10, 1)]) := by kernel_rfl
@[simp] theorem bd69 : ∀ (e : Env) (parts : Array (Nat × Operand)), evBuild Try.prog e 69 parts = (fillP ((([.lit (.int .u64 (0)), .lit (.int .u64 (0)), .lit (.int .u32 (0)), .lit (.int .u8 (0)), .lit (.int .u8 (0)), .lit (.int .u8 (0)), .lit (.int .u8 (0)), .lit .nilFunc, .lit (.pointer none), .lit (.int .i32 (0)), .lit (.int .i32 (0))], [(0, 1), (1, 1), (2, 1), (3, 1), (4, 1), (5, 1), (6, 1), (7, 1), (8, 1), (9, 1), (10, 1)]) : List PV × List (Nat × Nat)).2[·]?) e (([.lit (.int .u64 (0)), .lit (.int .u64 (0)), .lit (.int .u32 (0)), .lit (.int .u8 (0)), .lit (.int .u8 (0)), .lit (.int .u8 (0)), .lit (.int .u8 (0)), .lit .nilFunc, .lit (.pointer none), .lit (.int .i32 (0)), .lit (.int .i32 (0))], [(0, 1), (1, 1), (2, 1), (3, 1), (4, 1), (5, 1), (6, 1), (7, 1), (8, 1), (9, 1), (10, 1)]) : List PV × List (Nat × Nat)).1 parts.toList).map .agg := evBuild_eq bld69
theorem lay70 : lay Try.prog 70 = some (false, 1) := by kernel_rfl
@[simp] theorem ld70 : ∀ (cs : List PV) (off : Nat), loadFrom Try.prog 70 cs off = cs[off]? := loadFrom_one lay70
@[simp] theorem st70 : ∀ (s : Sto) (id off : Nat) (q : PV), evStore Try.prog s 70 (.ptr id off) q = match cellsOf q with | some xs => (match s.get id with | some (.cells cs) => if xs.length = 1 ∧ xs.all PV.solid = true ∧ off + xs.length ≤ cs.length then some (s.set id (some (.cells (writeAt cs off xs)))) else none | _ => none) | none => none := evStore_U lay70
theorem alc70 : alc Try.prog 70 = some [.lit (.pointer none)] := by kernel_rfl
@[simp] theorem al70 : ∀ (s : Sto), evAlloc Try.prog s 70 = some (.ptr s.next 0, s.push (.cells [.lit (.pointer none)])) := evAlloc_eq alc70
@[simp] theorem ai22_2 : ∀ (s : Sto) (id off k c z : Nat) (l : Int), evAppendO Try.prog s 22 2 (.oslice id off k (some c) z) (.lit (.int .i64 l)) = if 0 < l ∧ c < k + l.toNat ∧ (k + l.toNat) * 40 ≤ 140737488355328 then (ownCells s id off (k * 3)).map fun old => (.oslice s.next 0 (k + l.toNat) none 3, s.push (.cells (old ++ List.replicate (l.toNat * 3) .any))) else none := fun s id off k c z l => evAppendO_I apd22 int2 s id off k c z l
@[simp] theorem ai22_3 : ∀ (s : Sto) (id off k c z : Nat) (l : Int), evAppendO Try.prog s 22 3 (.oslice id off k (some c) z) (.lit (.int .i64 l)) = if 0 < l ∧ c < k + l.toNat ∧ (k + l.toNat) * 40 ≤ 140737488355328 then (ownCells s id off (k * 3)).map fun old => (.oslice s.next 0 (k + l.toNat) none 3, s.push (.cells (old ++ List.replicate (l.toNat * 3) .any))) else none := fun s id off k c z l => evAppendO_I apd22 int3 s id off k c z l
@[simp] theorem ai29_2 : ∀ (s : Sto) (id off k c z : Nat) (l : Int), evAppendO Try.prog s 29 2 (.oslice id off k (some c) z) (.lit (.int .i64 l)) = if 0 < l ∧ c < k + l.toNat ∧ (k + l.toNat) * 16 ≤ 140737488355328 then (ownCells s id off (k * 2)).map fun old => (.oslice s.next 0 (k + l.toNat) none 2, s.push (.cells (old ++ List.replicate (l.toNat * 2) .any))) else none := fun s id off k c z l => evAppendO_I apd29 int2 s id off k c z l
@[simp] theorem ai29_3 : ∀ (s : Sto) (id off k c z : Nat) (l : Int), evAppendO Try.prog s 29 3 (.oslice id off k (some c) z) (.lit (.int .i64 l)) = if 0 < l ∧ c < k + l.toNat ∧ (k + l.toNat) * 16 ≤ 140737488355328 then (ownCells s id off (k * 2)).map fun old => (.oslice s.next 0 (k + l.toNat) none 2, s.push (.cells (old ++ List.replicate (l.toNat * 2) .any))) else none := fun s id off k c z l => evAppendO_I apd29 int3 s id off k c z l
@[simp] theorem ai33_2 : ∀ (s : Sto) (id off k c z : Nat) (l : Int), evAppendO Try.prog s 33 2 (.oslice id off k (some c) z) (.lit (.int .i64 l)) = if 0 < l ∧ c < k + l.toNat ∧ (k + l.toNat) * 8 ≤ 140737488355328 then (ownCells s id off (k * 1)).map fun old => (.oslice s.next 0 (k + l.toNat) none 1, s.push (.cells (old ++ List.replicate (l.toNat * 1) .any))) else none := fun s id off k c z l => evAppendO_I apd33 int2 s id off k c z l
@[simp] theorem ai33_3 : ∀ (s : Sto) (id off k c z : Nat) (l : Int), evAppendO Try.prog s 33 3 (.oslice id off k (some c) z) (.lit (.int .i64 l)) = if 0 < l ∧ c < k + l.toNat ∧ (k + l.toNat) * 8 ≤ 140737488355328 then (ownCells s id off (k * 1)).map fun old => (.oslice s.next 0 (k + l.toNat) none 1, s.push (.cells (old ++ List.replicate (l.toNat * 1) .any))) else none := fun s id off k c z l => evAppendO_I apd33 int3 s id off k c z l
end Go.Proofs.Try
