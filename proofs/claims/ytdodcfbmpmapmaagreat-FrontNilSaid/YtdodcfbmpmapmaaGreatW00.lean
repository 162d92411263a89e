/- Proofs about the front of the overload controller, part 0: Eng1 Eng2 Eng3 Eng4 Eng5. -/
import Derived.WalkKit
import Derived.LoopN
import Derived.ScopeJumps
import Derived.Below
import Derived.Laws.StructEq
set_option linter.all false
set_option linter.constructorNameAsVariable false
set_option linter.unusedVariables false
/- The engine, part 1: what is known of the slots; types; the meaning of each operation as a typed weakest precondition. -/
namespace Go.Eng
open Go Go.RowKit

/-! ### Slots -/
abbrev Env := List (Option Value)

def get : Env → Nat → Option Value
  | [], _ => none
  | x :: _, 0 => x
  | _ :: xs, n + 1 => get xs n

def put : Env → Nat → Option Value → Env
  | [], _, _ => []
  | _ :: xs, 0, v => v :: xs
  | x :: xs, n + 1, v => x :: put xs n v

def putO (e : Env) (d : Option Nat) (v : Value) : Env :=
  match d with
  | some d => put e d (some v)
  | none => e

theorem put_length (e : Env) : ∀ n v, (put e n v).length = e.length := by
  induction e with
  | nil => intro n v; rfl
  | cons x xs ih => intro n v; cases n <;> simp [put, ih]

theorem get_put (e : Env) : ∀ n m v, get (put e n v) m = if n = m ∧ n < e.length then v else get e m := by
  induction e with
  | nil => intro n m v; simp [put, get]
  | cons x xs ih =>
    intro n m v
    cases n with
    | zero => cases m <;> simp [put, get]
    | succ n =>
      cases m with
      | zero => simp [put, get]
      | succ m => simp [put, get, ih]

/-- what is known of the slots holds -/
structure Fits (e : Env) (ts : Array Value) : Prop where
  size : e.length ≤ ts.size
  known : ∀ i v, get e i = some v → ts[i]? = some v

theorem Fits.put {e : Env} {a : Act} (h : Fits e a.tmps) (d : Option Nat) (v : Value) : Fits (putO e d v) (a.put d v).tmps := by
  cases d with
  | none => exact h
  | some d =>
    refine ⟨by simp [putO, put_length, Act.put, h.size], fun i u hu => ?_⟩
    simp only [putO, get_put] at hu
    simp only [Act.put, Array.getElem?_setIfInBounds]
    by_cases hi : d = i
    · subst hi
      by_cases hd : d < e.length
      · have := h.size
        simp [hd] at hu
        rw [if_pos rfl, if_pos (by omega), hu]
      · have hget : ∀ (e : Env) (d : Nat), ¬ d < e.length → get e d = none := by
          intro e
          induction e with
          | nil => intro d _; rfl
          | cons x xs ih =>
            intro d hd
            cases d with
            | zero => simp at hd
            | succ d => exact ih d (by simpa using hd)
        simp [hd, hget e d hd] at hu
    · simp [hi] at hu ⊢
      exact h.known i u hu

theorem Fits.put_def {e : Env} {ts : Array Value} {ds : List Deferred} (h : Fits e ts) (d : Option Nat) (v : Value) :
    Fits (putO e d v) ((Act.mk ts ds).put d v).tmps := Fits.put (a := ⟨ts, ds⟩) h d v

def eval (e : Env) : Operand → Option Value
  | .tmp t => get e t
  | .const v => some v
  | .global g => some (.pointer (some ⟨g, 0, none⟩))
  | .func f => some (.func (.func f) #[] #[])

theorem eval_sound {e : Env} {a : Act} (h : Fits e a.tmps) {x : Operand} {v : Value} (hv : eval e x = some v) : a.eval x = v := by
  cases x with
  | tmp t =>
    have h1 := h.known t v hv
    simp only [Act.eval, Array.getD]
    obtain ⟨h2, h3⟩ := Array.getElem?_eq_some_iff.1 h1
    rw [dif_pos h2]
    exact h3
  | const u => simpa [eval, Act.eval] using hv
  | global g => simpa [eval, Act.eval] using hv
  | func f => simpa [eval, Act.eval] using hv

def evals (e : Env) : List Operand → Option (List Value)
  | [] => some []
  | x :: xs =>
    match eval e x, evals e xs with
    | some v, some vs => some (v :: vs)
    | _, _ => none

theorem evals_sound {e : Env} {a : Act} (h : Fits e a.tmps) : ∀ {xs : List Operand} {vs : List Value}, evals e xs = some vs → xs.map a.eval = vs := by
  intro xs
  induction xs with
  | nil => intro vs hv; simpa [evals] using hv
  | cons x xs ih =>
    intro vs hv
    simp only [evals] at hv
    cases hx : eval e x with
    | none => simp [hx] at hv
    | some v =>
      cases hxs : evals e xs with
      | none => simp [hx, hxs] at hv
      | some us =>
        simp [hx, hxs] at hv
        rw [← hv, List.map_cons, eval_sound h hx, ih hxs]

theorem evals_sound' {e : Env} {a : Act} (h : Fits e a.tmps) {xs : Array Operand} {vs : List Value} (hv : evals e xs.toList = some vs) : xs.map a.eval = vs.toArray := by
  have h1 := evals_sound h hv
  apply Array.ext'
  rw [Array.toList_map, h1]

/-! ### Types -/
/-- the shape of a cell -/
inductive Sh where
  | int (k : IntKind) | bool | str | ptr | slice | map | func | iface
  deriving DecidableEq

def Sh.zero : Sh → Value
  | .int k => .int k 0
  | .bool => .bool false
  | .str => .string ⟨#[]⟩
  | .ptr => .pointer none
  | .slice => .slice none 0 0
  | .map => .map none
  | .func => .nilFunc
  | .iface => .nilIface

/-- some value of a shape -/
def exSh (s : Sh) (k : Value → Prop) : Prop :=
  match s with
  | .int ik => ∃ n : Int, k (.int ik n)
  | .bool => ∃ b : Bool, k (.bool b)
  | .str => ∃ b : ByteArray, k (.string b)
  | .ptr => ∃ p : Option Addr, k (.pointer p)
  | .slice => ∃ (a : Option Addr) (l c : Nat), k (.slice a l c)
  | .map => ∃ r : Option Nat, k (.map r)
  | .func => ∃ v : Value, k v
  | .iface => ∃ v : Value, k v

theorem exSh_get {s : Sh} {k : Value → Prop} (h : exSh s k) : ∃ v, k v := by
  cases s <;> simp only [exSh] at h
  case slice => obtain ⟨a, l, c, h⟩ := h; exact ⟨_, h⟩
  all_goals (obtain ⟨n, h⟩ := h; exact ⟨_, h⟩)

/-- what a type is, in short -/
inductive D where
  | int (k : IntKind) | bool | str | ptr | slice (elem : TypeId) | array (len : Nat) (elem : TypeId)
  | struct (fs : List (Nat × TypeId)) | map | func | iface | tuple (ts : List TypeId)
  deriving DecidableEq

structure TI where
  d : D
  size : Nat
  bytes : Nat
  cells : List Sh

def TI.agg (ti : TI) : Bool := match ti.d with | .array .. => true | .struct .. => true | _ => false

def TI.zero (ti : TI) : Value :=
  match ti.agg, ti.cells with
  | true, cs => .agg (cs.map Sh.zero).toArray
  | false, c :: _ => c.zero
  | false, [] => .tuple #[]

/-- what a type's row of the program says -/
def D.agrees : D → TypeDesc → Bool
  | .int k, .int k' => k == k'
  | .bool, .bool => true
  | .str, .string => true
  | .ptr, .pointer _ => true
  | .slice e, .slice e' => e == e'
  | .array n e, .array n' e' => n == n' && e == e'
  | .struct fs, .struct fs' => fs == fs'.toList.map fun f => (f.offset, f.type)
  | .map, .map _ _ => true
  | .func, .func _ _ _ => true
  | .iface, .interface _ => true
  | .tuple ts, .tuple ts' => ts == ts'.toList
  | _, _ => false

def zeroOk : Sh → Value → Bool
  | .int k, .int k' n => k == k' && n == 0
  | .bool, .bool b => !b
  | .str, .string b => b.data.toList.isEmpty
  | .ptr, .pointer none => true
  | .slice, .slice none 0 0 => true
  | .map, .map none => true
  | .func, .nilFunc => true
  | .iface, .nilIface => true
  | _, _ => false

theorem zeroOk_eq {s : Sh} {v : Value} (h : zeroOk s v = true) : v = s.zero := by
  cases s <;> cases v <;> simp [zeroOk, Sh.zero] at h ⊢
  case int.int => exact ⟨h.1.symm, h.2⟩
  case bool.bool => exact h
  case str.string b =>
    obtain ⟨d⟩ := b
    simp at h
    subst h
    rfl
  case ptr.pointer a => cases a <;> simp at h ⊢
  case slice.slice a l c => cases a <;> cases l <;> cases c <;> simp at h ⊢
  case map.map r => cases r <;> simp at h ⊢

def zerosOk : List Sh → List Value → Bool
  | [], [] => true
  | s :: ss, v :: vs => zeroOk s v && zerosOk ss vs
  | _, _ => false

theorem zerosOk_eq : ∀ {ss : List Sh} {vs : List Value}, zerosOk ss vs = true → vs = ss.map Sh.zero
  | [], [], _ => rfl
  | s :: ss, v :: vs, h => by
    simp only [zerosOk, Bool.and_eq_true] at h
    rw [zeroOk_eq h.1, zerosOk_eq h.2]
    rfl
  | [], _ :: _, h => by simp [zerosOk] at h
  | _ :: _, [], h => by simp [zerosOk] at h

def TI.isTuple (ti : TI) : Bool := match ti.d with | .tuple _ => true | _ => false

def TI.zeroIs (ti : TI) (z : Value) : Bool :=
  match ti.agg, z with
  | true, .agg vs => zerosOk ti.cells vs.toList && ti.size == ti.cells.length
  | false, v => zerosOk ti.cells [v] && ti.size == 1
  | _, _ => false

def TI.zeroOk (ti : TI) (z : Option Value) : Bool :=
  ti.isTuple || (match z with | some v => ti.zeroIs v | none => false)

/-- a type as the program has it -/
def TI.ok (P : Program) (t : TypeId) (ti : TI) : Bool :=
  match P.info? t, P.underlying t with
  | some i, some d => ti.d.agrees d && i.size == ti.size && i.bytes == ti.bytes && ti.zeroOk i.zero
  | _, _ => false

/-! ### Memory -/
/-- a value that is one cell -/
def one : Value → Bool
  | .agg _ => false
  | .tuple _ => false
  | _ => true

/-- a load of one cell -/
def Ld (s : Sh) (a : Addr) (w : World) (k : Value → Prop) : Prop := exSh s fun v => w.cell? a = some v ∧ k v

def ldCells : List Sh → Addr → Nat → World → List Value → (List Value → Prop) → Prop
  | [], _, _, _, acc, k => k acc
  | s :: ss, a, i, w, acc, k => Ld s (a.add i) w fun v => ldCells ss a (i + 1) w (acc ++ [v]) k

def ldT (ti : TI) (a : Addr) (w : World) (k : Value → Prop) : Prop :=
  match ti.agg, ti.cells with
  | true, cs => ldCells cs a 0 w [] fun vs => k (.agg vs.toArray)
  | false, s :: _ => Ld s a w k
  | false, [] => False

/-- a store of one cell -/
def St (a : Addr) (v : Value) (w : World) (k : World → Prop) : Prop :=
  (∃ u, w.cell? a = some u) ∧ w.frozen? a = false ∧ k (w.setCell a v)

def stCells : List Value → Addr → Nat → World → (World → Prop) → Prop
  | [], _, _, w, k => k w
  | v :: vs, a, i, w, k => if one v = true then St (a.add i) v w fun w => stCells vs a (i + 1) w k else False

/-- a new row of cells -/
def Al (cs : Array Value) (t : TypeId) (w : World) (k : Nat → World → Prop) : Prop := k w.heap.size (w.alloc (.cells cs t))

/-- a run of the model's own -/
def Run (P : Program) (s : Sem Value) (w : World) (k : Value → World → Prop) : Prop := ∃ v w', s.run P w = .ok v w' ∧ k v w'
def RunU (P : Program) (s : Sem Unit) (w : World) (k : World → Prop) : Prop := ∃ w', s.run P w = .ok () w' ∧ k w'

/-- a call that returns -/
def CallsV (P : Program) (f : FuncId) (args : Array Value) (w : World) (k : Value → World → Prop) : Prop :=
  Calls P f args w fun e w' => ∃ v, e = .returned v ∧ k v w'

theorem CallsV.mono {P : Program} {f : FuncId} {args : Array Value} {w : World} {k k' : Value → World → Prop} (h : CallsV P f args w k)
    (hk : ∀ v w', k v w' → k' v w') : CallsV P f args w k' :=
  Calls.mono h fun _ _ ⟨v, he, hv⟩ => ⟨v, he, hk _ _ hv⟩

/-- a call that leaves alone whatever is there, and is answered so in every world that has grown -/
def QCall (P : Program) (f : FuncId) (args : Array Value) (w : World) (v : Value) : Prop :=
  ∀ w1, Below w.heap.size w w1 → CallsV P f args w1 fun u w2 => u = v ∧ Below w1.heap.size w1 w2

end Go.Eng

/- The engine, part 2: what each operation comes to. -/
namespace Go.Eng
open Go Go.RowKit

/-- what the engine is told of a program: its types, which functions have a body, what those without do -/
structure Tell where
  ty : TypeId → Option TI
  body : FuncId → Bool
  ext : FuncId → Array Value → World → (Value → World → Prop) → Prop
  quiet : FuncId → Bool
  eq : TypeId → Bool

structure Tell.Ok (P : Program) (C : Tell) : Prop where
  ty : ∀ t ti, C.ty t = some ti → ti.ok P t = true
  body : ∀ f, C.body f = true → ∀ args w, (callFunc f args).run P w = .ok (.enter f args) w
  ext : ∀ f args w k, C.ext f args w k → ∃ v w', (callFunc f args).run P w = .ok (.value v) w' ∧ k v w'
  mixed : P.follows .mixedOrders = true

def exCells : List Sh → List Value → (List Value → Prop) → Prop
  | [], acc, k => k acc
  | s :: ss, acc, k => exSh s fun v => exCells ss (acc ++ [v]) k

/-- some value of a type that is no tuple -/
def exT1 (ti : TI) (k : Value → Prop) : Prop :=
  match ti.agg, ti.cells with
  | true, cs => exCells cs [] fun vs => k (.agg vs.toArray)
  | false, s :: _ => exSh s k
  | false, [] => False

def exTs (C : Tell) : List TypeId → List Value → (List Value → Prop) → Prop
  | [], acc, k => k acc
  | t :: ts, acc, k =>
    match C.ty t with
    | some ti => exT1 ti fun v => exTs C ts (acc ++ [v]) k
    | none => False

/-- some value of a type -/
def exT (C : Tell) (t : TypeId) (k : Value → Prop) : Prop :=
  match C.ty t with
  | some ti =>
    match ti.d with
    | .tuple ts => exTs C ts [] fun vs => k (.tuple vs.toArray)
    | _ => exT1 ti k
  | none => False

/-- a value that is of a type -/
def OfT (C : Tell) (t : TypeId) (v : Value) (k : Value → Prop) : Prop := exT C t fun u => v = u ∧ k u

theorem exCells_get : ∀ {ss : List Sh} {acc : List Value} {k : List Value → Prop}, exCells ss acc k → ∃ vs, k vs
  | [], _, _, h => ⟨_, h⟩
  | _ :: _, _, _, h => by
    simp only [exCells] at h
    obtain ⟨v, h⟩ := exSh_get h
    exact exCells_get h

theorem exT1_get {ti : TI} {k : Value → Prop} (h : exT1 ti k) : ∃ v, k v := by
  unfold exT1 at h
  split at h
  · obtain ⟨vs, h⟩ := exCells_get h; exact ⟨_, h⟩
  · exact exSh_get h
  · exact h.elim

theorem exTs_get {C : Tell} : ∀ {ts : List TypeId} {acc : List Value} {k : List Value → Prop}, exTs C ts acc k → ∃ vs, k vs
  | [], _, _, h => ⟨_, h⟩
  | _ :: _, _, _, h => by
    simp only [exTs] at h
    split at h
    · obtain ⟨v, h⟩ := exT1_get h
      exact exTs_get h
    · exact h.elim

theorem exT_get {C : Tell} {t : TypeId} {k : Value → Prop} (h : exT C t k) : ∃ v, k v := by
  unfold exT at h
  split at h
  · split at h
    · obtain ⟨vs, h⟩ := exTs_get h; exact ⟨_, h⟩
    · exact exT1_get h
  · exact h.elim

theorem OfT_get {C : Tell} {t : TypeId} {v : Value} {k : Value → Prop} (h : OfT C t v k) : k v := by
  obtain ⟨u, hu, h⟩ := exT_get h
  rw [hu]; exact h

/-- a pointer that is not nil -/
def Nn (p : Option Addr) (k : Addr → Prop) : Prop :=
  match p with
  | some a => k a
  | none => False

theorem Nn_get {p : Option Addr} {k : Addr → Prop} (h : Nn p k) : ∃ a, p = some a ∧ k a := by
  cases p with
  | none => exact h.elim
  | some a => exact ⟨a, rfl, h⟩

/-- an index that is in range -/
def Ix (base : Option Addr) (len : Nat) (i : Int) (k : Addr → Prop) : Prop :=
  match base with
  | some a => 0 ≤ i ∧ i < (len : Int) ∧ k a
  | none => False

theorem Ix_get {base : Option Addr} {len : Nat} {i : Int} {k : Addr → Prop} (h : Ix base len i k) : ∃ a, base = some a ∧ 0 ≤ i ∧ i < (len : Int) ∧ k a := by
  cases base with
  | none => exact h.elim
  | some a => exact ⟨a, rfl, h⟩

def shape1 (C : Tell) (t : TypeId) : Option D := (C.ty t).map (·.d)
def sizeT (C : Tell) (t : TypeId) : Nat := match C.ty t with | some ti => ti.size | none => 0

def binI (op : BinOp) (k : IntKind) (a b : Int) (K : Value → Prop) : Prop :=
  match op with
  | .add => K (.int k (k.wrap (a + b)))
  | .sub => K (.int k (k.wrap (a - b)))
  | .mul => K (.int k (k.wrap (a * b)))
  | .quo => if b = 0 then False else K (.int k (k.wrap (a.tdiv b)))
  | .rem => if b = 0 then False else K (.int k (a.tmod b))
  | .and => K (.int k (k.wrap (BitVec.ofInt k.bits a &&& BitVec.ofInt k.bits b).toNat))
  | .or => K (.int k (k.wrap (BitVec.ofInt k.bits a ||| BitVec.ofInt k.bits b).toNat))
  | .xor => K (.int k (k.wrap (BitVec.ofInt k.bits a ^^^ BitVec.ofInt k.bits b).toNat))
  | .andNot => K (.int k (k.wrap (BitVec.ofInt k.bits a &&& ~~~ BitVec.ofInt k.bits b).toNat))
  | .eql => K (.bool (decide (a = b)))
  | .neq => K (.bool (!decide (a = b)))
  | .lss => K (.bool (decide (a < b)))
  | .leq => K (.bool (decide (a ≤ b)))
  | .gtr => K (.bool (decide (b < a)))
  | .geq => K (.bool (decide (b ≤ a)))
  | _ => False

def shI (op : BinOp) (k : IntKind) (a b : Int) (K : Value → Prop) : Prop :=
  match op with
  | .shl => if b < 0 then False else K (.int k (k.wrap (a * 2 ^ (min b.toNat k.bits))))
  | .shr => if b < 0 then False else K (.int k (a.fdiv (2 ^ (min b.toNat k.bits))))
  | _ => False

def partV (ti : TI) (cs : List Value) (off : Nat) : Option Value :=
  if ti.agg then some (.agg ((cs.drop off).take ti.size).toArray) else cs[off]?

/-- equality of data, by its type -/
def eqFs (eq : TypeId → Value → Value → Option Bool) (C : Tell) (xs ys : List Value) : List (Nat × TypeId) → Option Bool
  | [] => some true
  | (off, u) :: fs =>
    match C.ty u with
    | some ti =>
      match partV ti xs off, partV ti ys off with
      | some x, some y =>
        match eq u x y, eqFs eq C xs ys fs with
        | some a, some b => some (a && b)
        | _, _ => none
      | _, _ => none
    | none => none

def eqT (C : Tell) : Nat → TypeId → Value → Value → Option Bool
  | 0, _, _, _ => none
  | d + 1, t, x, y =>
    match shape1 C t, x, y with
    | some (.int _), .int k a, .int k' b => if k = k' then some (decide (a = b)) else none
    | some .bool, .bool a, .bool b => some (a == b)
    | some (.struct fs), .agg xs, .agg ys => if C.eq t = true then eqFs (eqT C d) C xs.toList ys.toList fs else none
    | _, _, _ => none

def eqV (C : Tell) (neg : Bool) (t : TypeId) (x y : Value) (K : Value → Prop) : Prop :=
  match shape1 C t, x, y with
  | some .bool, .bool a, .bool b => K (.bool (if neg then !(a == b) else a == b))
  | some .str, .string a, .string b => K (.bool (if neg then !(a.toList == b.toList) else a.toList == b.toList))
  | some .ptr, .pointer p, .pointer none => K (.bool (if neg then !p.isNone else p.isNone))
  | some (.slice _), .slice p _ _, .slice none _ _ => K (.bool (if neg then !p.isNone else p.isNone))
  | some .map, .map p, .map none => K (.bool (if neg then !p.isNone else p.isNone))
  | some (.struct _), .agg xs, .agg ys =>
    match eqT C 8 t (.agg xs) (.agg ys) with
    | some b => K (.bool (if neg then !b else b))
    | none => False
  | _, _, _ => False

def binE (C : Tell) (op : BinOp) (t : TypeId) (x y : Value) (K : Value → Prop) : Prop :=
  match op with
  | .eql => eqV C false t x y K
  | .neq => eqV C true t x y K
  | _ => False

def binV (C : Tell) (op : BinOp) (t : TypeId) (x y : Value) (K : Value → Prop) : Prop :=
  match x, y with
  | .int k a, .int k' b =>
    match op with
    | .shl => shI .shl k a b K
    | .shr => shI .shr k a b K
    | _ => if k = k' then binI op k a b K else False
  | x, y => binE C op t x y K

def unV (op : UnOp) (x : Value) (K : Value → Prop) : Prop :=
  match op, x with
  | .not, .bool b => K (.bool (!b))
  | .neg, .int k n => K (.int k (k.wrap (0 - n)))
  | .xor, .int k n => K (.int k (k.wrap (BitVec.ofInt k.bits (if k.signed then -1 else k.max) ^^^ BitVec.ofInt k.bits n).toNat))
  | _, _ => False

def convV (C : Tell) (s d : TypeId) (x : Value) (K : Value → Prop) : Prop :=
  match C.ty s, shape1 C d, x with
  | some _, some (.int k), .int _ n => K (.int k (k.wrap n))
  | _, _, _ => False

def fieldV (C : Tell) (t : TypeId) (x : Value) (f : Nat) (K : Value → Prop) : Prop :=
  match shape1 C t, x with
  | some (.struct fs), .agg cs =>
    match fs[f]? with
    | some (off, u) =>
      match C.ty u with
      | some ti => match partV ti cs.toList off with | some v => K v | none => False
      | none => False
    | none => False
  | _, _ => False

def fieldAddrV (C : Tell) (t : TypeId) (x : Value) (f : Nat) (K : Value → Prop) : Prop :=
  match shape1 C t, x with
  | some (.struct fs), .pointer (some a) =>
    match fs[f]? with
    | some (off, u) => if sizeT C u = 0 then False else K (.pointer (some (a.add off)))
    | none => False
  | _, _ => False

def indexAddrV (C : Tell) (t : TypeId) (x i : Value) (K : Value → Prop) : Prop :=
  match shape1 C t, x, i with
  | some (.slice u), .slice base len _, .int _ i => Ix base len i fun a => match C.ty u with | some ti => K (.pointer (some (a.add (i.toNat * ti.size)))) | none => False
  | some (.array n u), .pointer p, .int _ i => Ix p n i fun a => match C.ty u with | some ti => K (.pointer (some (a.add (i.toNat * ti.size)))) | none => False
  | _, _, _ => False

def indexV (C : Tell) (t : TypeId) (x i : Value) (K : Value → Prop) : Prop :=
  match shape1 C t, x, i with
  | some .str, .string s, .int _ i => 0 ≤ i ∧ ∃ b, s[i.toNat]? = some b ∧ K (.int .u8 b.toNat)
  | _, _, _ => False

def extractV (x : Value) (i : Nat) (K : Value → Prop) : Prop :=
  match x with
  | .tuple vs => match vs.toList[i]? with | some v => K v | none => False
  | _ => False

def placeOf (C : Tell) (fs : List (Nat × TypeId)) (i : Nat) : Option (Nat × Nat) :=
  match fs[i]? with
  | some p => some (p.1, sizeT C p.2)
  | none => none

/-- parts of a struct or an array laid over zeros -/
def buildV (C : Tell) (t : TypeId) (parts : List (Nat × Value)) (K : Value → Prop) : Prop :=
  match C.ty t with
  | some ti =>
    match ti.d with
    | .struct fs =>
      if (fs.all fun (_, u) => (C.ty u).isSome) = true then
        match Instr.fill (placeOf C fs) (ti.cells.map Sh.zero).toArray parts with
        | some cs => if ti.cells.length = ti.size then K (.agg cs) else False
        | none => False
      else False
    | .array _ u =>
      match C.ty u with
      | some tu =>
        match Instr.fill (fun i => some (i * tu.size, tu.size)) (ti.cells.map Sh.zero).toArray parts with
        | some cs => K (.agg cs)
        | none => False
      | none => False
    | _ => False
  | none => False

def partsV (e : Env) : List (Nat × Operand) → Option (List (Nat × Value))
  | [] => some []
  | (i, x) :: ps =>
    match eval e x, partsV e ps with
    | some v, some vs => some ((i, v) :: vs)
    | _, _ => none

/-- what the built-in functions come to that need no memory -/
def builtinV (C : Tell) (b : Builtin) (ts : List TypeId) (vs : List Value) (K : Value → Prop) : Prop :=
  match b, vs with
  | .len, [.slice _ n _] => match ts with | t :: _ => (match shape1 C t with | some (.slice _) => K (.int .i64 n) | _ => False) | [] => False
  | .len, [.string s] => match ts with | t :: _ => (match shape1 C t with | some .str => K (.int .i64 s.size) | _ => False) | [] => False
  | .max, [.int k x, .int _ y] => K (.int k (if y > x then y else x))
  | .min, [.int k x, .int _ y] => K (.int k (if y < x then y else x))
  | .max, [.int k x, .int _ y, .int _ z] => K (.int k (if z > (if y > x then y else x) then z else (if y > x then y else x)))
  | .min, [.int k x, .int _ y, .int _ z] => K (.int k (if z < (if y < x then y else x) then z else (if y < x then y else x)))
  | .min, [.int k x, .int _ y, .int _ z, .int _ u] =>
    K (.int k (if u < (if z < (if y < x then y else x) then z else (if y < x then y else x)) then u else (if z < (if y < x then y else x) then z else (if y < x then y else x))))
  | _, _ => False

/-- an operation that looks at no memory -/
def evPure (C : Tell) (o : Oper) (e : Env) (K : Value → Prop) : Prop :=
  match o.op with
  | .move x => match eval e x with | some v => K v | none => False
  | .assign x => match eval e x with | some v => K v | none => False
  | .pick c a b =>
    match eval e c with
    | some (.bool c) => if c = true then (match eval e a with | some v => K v | none => False) else (match eval e b with | some v => K v | none => False)
    | _ => False
  | .build t ps => match partsV e ps.toList with | some vs => buildV C t vs K | none => False
  | .nilCheck x =>
    match eval e x with
    | some (.pointer p) => Nn p fun a => K (.pointer (some a))
    | _ => False
  | .binOp op t x y _ => match eval e x, eval e y with | some a, some b => binV C op t a b K | _, _ => False
  | .unOp op _ x => match eval e x with | some a => unV op a K | none => False
  | .convert s d x => match eval e x with | some a => convV C s d a K | none => False
  | .makeFunc fn first captured => match evals e first.toList, evals e captured.toList with | some a, some b => K (.func fn a.toArray b.toArray) | _, _ => False
  | .fieldAddr t x f => match eval e x with | some a => fieldAddrV C t a f K | none => False
  | .field t x f => match eval e x with | some a => fieldV C t a f K | none => False
  | .indexAddr t x i => match eval e x, eval e i with | some a, some b => indexAddrV C t a b K | _, _ => False
  | .index t x i => match eval e x, eval e i with | some a, some b => indexV C t a b K | _, _ => False
  | .extract x i => match eval e x with | some a => extractV a i K | none => False
  | .call c =>
    match c.callee with
    | .builtin b => match evals e c.args.toList with | some vs => builtinV C b c.argTypes.toList vs K | none => False
    | _ => False
  | _ => False

end Go.Eng

/- The engine, part 3: what needs no memory is as the model has it. -/
namespace Go.Eng
open Go Go.RowKit

variable {P : Program} {C : Tell}

structure TyIs (P : Program) (t : TypeId) (ti : TI) (i : TypeInfo) (d : TypeDesc) : Prop where
  info : P.info? t = some i
  und : P.underlying t = some d
  agrees : ti.d.agrees d = true
  size : i.size = ti.size
  bytes : i.bytes = ti.bytes
  zero : ti.zeroOk i.zero = true

theorem tyIs (hC : C.Ok P) {t : TypeId} {ti : TI} (h : C.ty t = some ti) : ∃ i d, TyIs P t ti i d := by
  have h1 := hC.ty t ti h
  unfold TI.ok at h1
  split at h1
  · rename_i i d hi hd
    simp only [Bool.and_eq_true, beq_iff_eq] at h1
    exact ⟨i, d, hi, hd, h1.1.1.1, h1.1.1.2, h1.1.2, h1.2⟩
  · cases h1

theorem run_und {t : TypeId} {d : TypeDesc} (h : P.underlying t = some d) (w : World) : (underlying t).run P w = .ok d w := by
  simp [underlying, h]

theorem run_info {t : TypeId} {i : TypeInfo} (h : P.info? t = some i) (w : World) : (typeInfo t).run P w = .ok i w := by
  simp [typeInfo, h]

theorem run_size {t : TypeId} {i : TypeInfo} (h : P.info? t = some i) (w : World) : (sizeOf t).run P w = .ok i.size w := by
  simp [sizeOf, run_info h]

def tdAgg (d : TypeDesc) : Bool := match d with | .struct _ => true | .array _ _ => true | _ => false

theorem agg_agrees {ti : TI} {d : TypeDesc} (h : ti.d.agrees d = true) : tdAgg d = ti.agg := by
  obtain ⟨td, _, _, _⟩ := ti
  simp only at h
  cases td <;> cases d <;> simp [D.agrees] at h <;> simp [tdAgg, TI.agg]

theorem run_isAgg {t : TypeId} {ti : TI} {i : TypeInfo} {d : TypeDesc} (h : TyIs P t ti i d) (w : World) : (isAgg t).run P w = .ok ti.agg w := by
  rw [← agg_agrees h.agrees]
  unfold isAgg
  simp only [Sem.run_bind, run_und h.und, Result.andThen_ok]
  cases d <;> rfl

theorem zero_is {t : TypeId} {ti : TI} {i : TypeInfo} {d : TypeDesc} (h : TyIs P t ti i d) (hd : ti.isTuple = false) : i.zero = some ti.zero ∧ (ti.agg = true → ti.size = ti.cells.length) ∧ (ti.agg = false → ti.size = 1 ∧ ∃ s, ti.cells = [s]) := by
  have hz := h.zero
  unfold TI.zeroOk at hz
  rw [hd, Bool.false_or] at hz
  cases hv : i.zero with
  | none => rw [hv] at hz; cases hz
  | some v =>
    rw [hv] at hz
    simp only [TI.zeroIs] at hz
    cases ha : ti.agg with
    | true =>
      rw [ha] at hz
      cases v with
      | agg vs =>
        simp only [Bool.and_eq_true, beq_iff_eq] at hz
        refine ⟨?_, fun _ => hz.2, fun h => (by cases h)⟩
        unfold TI.zero
        rw [ha]
        have hl := zerosOk_eq hz.1
        simp only [Option.some.injEq, Value.agg.injEq]
        rw [← hl]
      | _ => cases hz
    | false =>
      rw [ha] at hz
      simp only [Bool.and_eq_true, beq_iff_eq] at hz
      cases hc : ti.cells with
      | nil => rw [hc] at hz; simp [zerosOk] at hz
      | cons s ss =>
        cases ss with
        | cons _ _ => rw [hc] at hz; simp [zerosOk] at hz
        | nil =>
          rw [hc] at hz
          simp only [zerosOk, Bool.and_true] at hz
          refine ⟨?_, fun h => (by cases h), fun _ => ⟨hz.2, s, rfl⟩⟩
          rw [zeroOk_eq hz.1]
          simp [TI.zero, ha, hc]

theorem run_zero {t : TypeId} {ti : TI} {i : TypeInfo} {d : TypeDesc} (h : TyIs P t ti i d) (hd : ti.isTuple = false) (w : World) : (zeroValue t).run P w = .ok ti.zero w := by
  simp [zeroValue, run_info h.info, (zero_is h hd).1]

theorem shape1_some {t : TypeId} {d : D} (h : shape1 C t = some d) : ∃ ti, C.ty t = some ti ∧ ti.d = d := by
  unfold shape1 at h
  cases hc : C.ty t with
  | none => simp [hc] at h
  | some ti => exact ⟨ti, rfl, by simpa [hc] using h⟩

theorem run_part {t : TypeId} {ti : TI} {i : TypeInfo} {d : TypeDesc} (h : TyIs P t ti i d) {cs : Array Value} {off : Nat} {v : Value} (hv : partV ti cs.toList off = some v) (w : World) :
    (part t cs off).run P w = .ok v w := by
  unfold part
  unfold partV at hv
  simp only [Sem.run_bind, run_isAgg h, Result.andThen_ok]
  cases ha : ti.agg with
  | true =>
    simp only [ha, if_true] at hv ⊢
    simp only [Sem.run_bind, run_size h.info, Result.andThen_ok, Sem.run_pure]
    have : cs.extract off (off + i.size) = ((cs.toList.drop off).take ti.size).toArray := by
      rw [h.size]
      apply Array.ext'
      simp
    rw [this]
    simpa using hv
  | false =>
    simp only [ha] at hv ⊢
    have h2 : cs[off]? = some v := by simpa using hv
    simp [h2]

/-- an operation that looks at no memory has its value, in whatever world -/
def Gives (P : Program) (s : Sem Value) (v : Value) : Prop := ∀ w, s.run P w = .ok v w

theorem gives_binI {op : BinOp} {k : IntKind} {a b : Int} {t : TypeId} {K : Value → Prop} (h : binI op k a b K) (hne : op ≠ .shl) (hne' : op ≠ .shr) : ∃ v, Gives P (binOp op t (.int k a) (.int k b)) v ∧ K v := by
  cases op <;> simp only [binI] at h
  case quo =>
    split at h
    · exact h.elim
    · rename_i hb; exact ⟨_, fun w => by simp [binOp, Op.intDiv, hb], h⟩
  case rem =>
    split at h
    · exact h.elim
    · rename_i hb; exact ⟨_, fun w => by simp [binOp, Op.intDiv, hb], h⟩
  case add => exact ⟨_, fun w => by simp [binOp, Op.intArith], h⟩
  case sub => exact ⟨_, fun w => by simp [binOp, Op.intArith], h⟩
  case mul => exact ⟨_, fun w => by simp [binOp, Op.intArith], h⟩
  case and => exact ⟨_, fun w => by simp [binOp, Op.intBits], h⟩
  case or => exact ⟨_, fun w => by simp [binOp, Op.intBits], h⟩
  case xor => exact ⟨_, fun w => by simp [binOp, Op.intBits], h⟩
  case andNot => exact ⟨_, fun w => by simp [binOp, Op.intBits], h⟩
  case eql => exact ⟨_, fun w => by simp [binOp, Op.intCmp]; rfl, h⟩
  case neq => exact ⟨_, fun w => by simp [binOp, Op.intCmp]; rfl, h⟩
  case lss => exact ⟨_, fun w => by simp [binOp, Op.intCmp], h⟩
  case leq => exact ⟨_, fun w => by simp [binOp, Op.intCmp], h⟩
  case gtr => exact ⟨_, fun w => by simp [binOp, Op.intCmp], h⟩
  case geq => exact ⟨_, fun w => by simp [binOp, Op.intCmp], h⟩

theorem gives_shI {op : BinOp} {k yk : IntKind} {a b : Int} {t : TypeId} {K : Value → Prop} (h : shI op k a b K) : ∃ v, Gives P (binOp op t (.int k a) (.int yk b)) v ∧ K v := by
  cases op <;> simp only [shI] at h
  case shl =>
    split at h
    · exact h.elim
    · rename_i hb; exact ⟨_, fun w => by simp [binOp, Op.shift, hb], h⟩
  case shr =>
    split at h
    · exact h.elim
    · rename_i hb; exact ⟨_, fun w => by simp [binOp, Op.shift, hb], h⟩

end Go.Eng

/- The engine, part 4: an operation that looks at no memory is as the model has it. -/
namespace Go.Eng
open Go Go.RowKit

variable {P : Program} {C : Tell}

theorem und_shape (hC : C.Ok P) {t : TypeId} {d : D} (h : shape1 C t = some d) : ∃ ti i td, C.ty t = some ti ∧ ti.d = d ∧ TyIs P t ti i td ∧ d.agrees td = true := by
  obtain ⟨ti, h1, h2⟩ := shape1_some h
  obtain ⟨i, td, h3⟩ := tyIs hC h1
  exact ⟨ti, i, td, h1, h2, h3, by rw [← h2]; exact h3.agrees⟩

/-- the struct types whose values are compared: what the comparison comes to -/
def EqOk (P : Program) (C : Tell) : Prop := ∀ t, C.eq t = true → P.stoodInHeld t = false ∧ ∀ f ∈ (P.fieldsOf t).toList, f.name ≠ "_"

theorem eqFs_sound (hC : C.Ok P) {d : Nat} {eq : TypeId → Value → Value → Option Bool} (heq : ∀ t x y b, eq t x y = some b → ∀ w, (Op.equalIn d t x y).run P w = .ok b w) {xs ys : Array Value} (w : World) :
    ∀ {fs : List Field} {b : Bool}, (∀ f ∈ fs, f.name ≠ "_") → eqFs eq C xs.toList ys.toList (fs.map fun f => (f.offset, f.type)) = some b → (Op.eqFields d xs ys fs).run P w = .ok b w
  | [], b, _, h => by
    simp only [List.map_nil, eqFs, Option.some.injEq] at h
    subst h
    rfl
  | f :: fs, b, hn, h => by
    simp only [List.map_cons, eqFs] at h
    split at h
    · rename_i ti hti
      split at h
      · rename_i x y hx hy
        split at h
        · rename_i a c ha hc
          cases h
          obtain ⟨i, td, h5⟩ := tyIs hC hti
          have h1 := eqFs_sound hC heq w (fun g hg => hn g (List.mem_cons_of_mem _ hg)) hc
          rw [Op.eqFields, if_pos (hn f (List.mem_cons_self ..))]
          simp only [Sem.run_bind, run_part h5 hx, run_part h5 hy, Result.andThen_ok, heq _ _ _ _ ha]
          cases a <;> simp [h1]
        · cases h
      · cases h
    · cases h

theorem eqT_sound (hC : C.Ok P) (hE : EqOk P C) : ∀ {d t x y b}, eqT C d t x y = some b → ∀ (m : Nat) (w : World), (Op.equalIn (d + m) t x y).run P w = .ok b w
  | 0, _, _, _, _, h, _, _ => by simp [eqT] at h
  | d + 1, t, x, y, b, h, m, w => by
    rw [show d + 1 + m = (d + m) + 1 by omega]
    simp only [eqT] at h
    split at h
    · rename_i k0 k a k' c hs
      obtain ⟨ti, i, td, h1, h2, h3, h4⟩ := und_shape hC hs
      cases td <;> simp [D.agrees] at h4
      split at h
      · rename_i hk
        subst hk
        cases h
        exact run_equalIn_int w _ _ _ _ _ _ h3.und
      · cases h
    · rename_i a c hs
      obtain ⟨ti, i, td, h1, h2, h3, h4⟩ := und_shape hC hs
      cases td <;> simp [D.agrees] at h4
      cases h
      exact run_equalIn_bool' w _ _ _ _ h3.und
    · rename_i fs xs ys hs
      obtain ⟨ti, i, td, h1, h2, h3, h4⟩ := und_shape hC hs
      cases td <;> simp [D.agrees] at h4
      rename_i fs'
      split at h
      · rename_i he
        obtain ⟨g1, g2⟩ := hE t he
        have hf : P.fieldsOf t = fs' := by simp [Program.fieldsOf, h3.und]
        rw [run_equalIn_struct w _ _ _ _ (by rw [hf]; exact h3.und) g1]
        refine eqFs_sound hC (fun t x y b hb w => eqT_sound hC hE hb m w) w g2 ?_
        rw [hf, ← h4]
        exact h
      · cases h
    · cases h

theorem eqT_told {d : Nat} {t : TypeId} {xs : Array Value} {y : Value} {b : Bool} (h : eqT C (d + 1) t (.agg xs) y = some b) : C.eq t = true := by
  simp only [eqT] at h
  split at h
  · contradiction
  · contradiction
  · split at h
    · assumption
    · cases h
  · cases h

theorem equal_unf (t : TypeId) (x y : Value) : Op.equal t x y = Op.equalIn (9999 + 1) t x y := rfl

theorem equal_bool {t : TypeId} (h : P.underlying t = some .bool) (a b : Bool) (w : World) : (Op.equal t (.bool a) (.bool b)).run P w = .ok (a == b) w := by
  rw [equal_unf, Op.equalIn]; simp [run_und h]
theorem equal_ptr {t e : TypeId} (h : P.underlying t = some (.pointer e)) (p : Option Addr) (w : World) : (Op.equal t (.pointer p) (.pointer none)).run P w = .ok p.isNone w := by
  rw [equal_unf, Op.equalIn]; cases p <;> simp [run_und h]
theorem equal_slice {t e : TypeId} (h : P.underlying t = some (.slice e)) (p : Option Addr) (l c l' c' : Nat) (w : World) : (Op.equal t (.slice p l c) (.slice none l' c')).run P w = .ok p.isNone w := by
  rw [equal_unf, Op.equalIn]; cases p <;> simp [run_und h]
theorem equal_map {t e f : TypeId} (h : P.underlying t = some (.map e f)) (p : Option Nat) (w : World) : (Op.equal t (.map p) (.map none)).run P w = .ok p.isNone w := by
  rw [equal_unf, Op.equalIn]; cases p <;> simp [run_und h]

theorem gives_eqV (hC : C.Ok P) (hE : EqOk P C) {neg : Bool} {t : TypeId} {x y : Value} {K : Value → Prop} (h : eqV C neg t x y K) :
    ∃ v, Gives P (binOp (if neg then .neq else .eql) t x y) v ∧ K v := by
  unfold eqV at h
  split at h
  · rename_i a b hs
    obtain ⟨ti, i, td, h1, h2, h3, h4⟩ := und_shape hC hs
    cases td <;> simp [D.agrees] at h4
    refine ⟨_, fun w => ?_, h⟩
    cases neg <;> simp [binOp, equal_bool h3.und]
  · rename_i a b hs
    refine ⟨_, fun w => ?_, h⟩
    cases neg <;> simp [binOp, Op.stringOp]
  · rename_i p hs
    obtain ⟨ti, i, td, h1, h2, h3, h4⟩ := und_shape hC hs
    cases td <;> simp [D.agrees] at h4
    refine ⟨_, fun w => ?_, h⟩
    cases neg <;> simp [binOp, equal_ptr h3.und]
  · rename_i u p l c l' c' hs
    obtain ⟨ti, i, td, h1, h2, h3, h4⟩ := und_shape hC hs
    cases td <;> simp [D.agrees] at h4
    refine ⟨_, fun w => ?_, h⟩
    cases neg <;> simp [binOp, equal_slice h3.und]
  · rename_i p hs
    obtain ⟨ti, i, td, h1, h2, h3, h4⟩ := und_shape hC hs
    cases td <;> simp [D.agrees] at h4
    refine ⟨_, fun w => ?_, h⟩
    cases neg <;> simp [binOp, equal_map h3.und]
  · rename_i u xs ys hs
    split at h
    · rename_i b hb
      have he : ∀ w, (Op.equal t (.agg xs) (.agg ys)).run P w = .ok b w := fun w => eqT_sound hC hE hb 9992 w
      refine ⟨_, fun w => ?_, h⟩
      cases neg <;> simp [binOp, he]
    · exact h.elim
  · exact h.elim

theorem eqGuard_no {op : BinOp} {t : TypeId} {x y : Operand} {a b : Value} (ha : a ≠ .nilIface) (hag : ∀ cs, a ≠ .agg cs) : eqGuard op t x y a b = pure () := by
  cases a <;> first | exact absurd rfl ha | exact absurd rfl (hag _) | (cases op <;> rfl)

theorem gives_binV (hC : C.Ok P) (hE : EqOk P C) {op : BinOp} {t : TypeId} {x y : Value} {K : Value → Prop} (h : binV C op t x y K) :
    ∃ v, Gives P (binOp op t x y) v ∧ K v := by
  unfold binV at h
  split at h
  · rename_i k a k' b
    split at h
    · exact gives_shI h
    · exact gives_shI h
    · rename_i h1 h2
      split at h
      · rename_i hk
        subst hk
        exact gives_binI h h1 h2
      · exact h.elim
  · unfold binE at h
    split at h
    · exact gives_eqV (neg := false) hC hE h
    · exact gives_eqV (neg := true) hC hE h
    · exact h.elim

theorem gives_unV {op : UnOp} {x : Value} {K : Value → Prop} (h : unV op x K) : ∃ v, Gives P (Op.unary op x) v ∧ K v := by
  unfold unV at h
  split at h
  · exact ⟨_, fun w => by simp [Op.unary], h⟩
  · exact ⟨_, fun w => by simp [Op.unary, Op.intArith], h⟩
  · exact ⟨_, fun w => by simp [Op.unary, Op.intBits], h⟩
  · exact h.elim

theorem gives_convV (hC : C.Ok P) {s d : TypeId} {x : Value} {K : Value → Prop} (h : convV C s d x K) : ∃ v, Gives P (convert s d x) v ∧ K v := by
  unfold convV at h
  split at h
  · rename_i ti k k' n hs hd
    obtain ⟨i, td, h1⟩ := tyIs hC hs
    obtain ⟨ti2, i2, td2, h2, h3, h4, h5⟩ := und_shape hC hd
    cases td2 <;> simp [D.agrees] at h5
    subst h5
    exact ⟨_, fun w => by simp [convert, run_und h1.und, run_und h4.und, Conv.intToInt], h⟩
  · exact h.elim

theorem field_of {fs : List (Nat × TypeId)} {fs' : Array Field} (h : fs = fs'.toList.map fun f => (f.offset, f.type)) {n off : Nat} {u : TypeId} (hf : fs[n]? = some (off, u)) : ∃ f, fs'[n]? = some f ∧ f.offset = off ∧ f.type = u := by
  subst h
  simp only [List.getElem?_map, Option.map_eq_some_iff] at hf
  obtain ⟨f, h1, h2⟩ := hf
  refine ⟨f, by simpa using h1, ?_, ?_⟩
  · exact congrArg Prod.fst h2
  · exact congrArg Prod.snd h2

theorem gives_fieldV (hC : C.Ok P) {t : TypeId} {x : Value} {f : Nat} {K : Value → Prop} (h : fieldV C t x f K) : ∃ v, Gives P (Instr.field t x f) v ∧ K v := by
  unfold fieldV at h
  split at h
  · rename_i fs cs hs
    obtain ⟨ti, i, td, h1, h2, h3, h4⟩ := und_shape hC hs
    split at h
    · rename_i off u hf
      split at h
      · rename_i tu hu
        split at h
        · rename_i v hv
          obtain ⟨i2, td2, h5⟩ := tyIs hC hu
          cases td <;> simp [D.agrees] at h4
          rename_i fs'
          obtain ⟨f', hf1, hf2, hf3⟩ := field_of h4 hf
          refine ⟨v, fun w => ?_, h⟩
          simp only [Instr.field, Sem.run_bind, run_und h3.und, Result.andThen_ok, hf1, asAgg, Sem.run_pure, hf2, hf3]
          exact run_part h5 hv w
        · exact h.elim
      · exact h.elim
    · exact h.elim
  · exact h.elim

theorem gives_fieldAddrV (hC : C.Ok P) {t : TypeId} {x : Value} {f : Nat} {K : Value → Prop} (h : fieldAddrV C t x f K) : ∃ v, Gives P (Instr.fieldAt t x f) v ∧ K v := by
  unfold fieldAddrV at h
  split at h
  · rename_i fs a hs
    obtain ⟨ti, i, td, h1, h2, h3, h4⟩ := und_shape hC hs
    split at h
    · rename_i off u hf
      split at h
      · exact h.elim
      · rename_i hz
        cases td <;> simp [D.agrees] at h4
        rename_i fs'
        obtain ⟨f', hf1, hf2, hf3⟩ := field_of h4 hf
        refine ⟨_, fun w => ?_, h⟩
        unfold sizeT at hz
        split at hz
        · rename_i tu hu
          obtain ⟨i2, td2, h5⟩ := tyIs hC hu
          simp only [Instr.fieldAt, Sem.run_bind, run_und h3.und, Result.andThen_ok, hf1, Instr.sureAddr, Sem.run_pure, fieldPlace, hf3, run_size h5.info, h5.size, hz, if_false, hf2]
        · exact absurd rfl hz
    · exact h.elim
  · exact h.elim

theorem gives_indexAddrV (hC : C.Ok P) {t : TypeId} {x i : Value} {K : Value → Prop} (h : indexAddrV C t x i K) : ∃ v, Gives P (Instr.indexAt t x i) v ∧ K v := by
  unfold indexAddrV at h
  split at h
  · rename_i u base len cap k n hs
    obtain ⟨ti, i, td, h1, h2, h3, h4⟩ := und_shape hC hs
    obtain ⟨a, hb, h0, hl, h9⟩ := Ix_get h
    clear h
    have h := h9
    clear h9
    split at h
    · rename_i tu hu
      obtain ⟨i2, td2, h5⟩ := tyIs hC hu
      cases td <;> simp [D.agrees] at h4
      subst h4
      subst hb
      refine ⟨_, fun w => ?_, h⟩
      simp [Instr.indexAt, asIntOf, run_und h3.und, run_size h5.info, h5.size, h0, hl]
    · exact h.elim
  · rename_i n u p k j hs
    obtain ⟨ti, i, td, h1, h2, h3, h4⟩ := und_shape hC hs
    obtain ⟨a, hb, h0, hl, h9⟩ := Ix_get h
    clear h
    have h := h9
    clear h9
    split at h
    · rename_i tu hu
      obtain ⟨i2, td2, h5⟩ := tyIs hC hu
      cases td <;> simp [D.agrees] at h4
      obtain ⟨h4, h4'⟩ := h4
      subst h4 h4'
      subst hb
      refine ⟨_, fun w => ?_, h⟩
      simp [Instr.indexAt, asIntOf, run_und h3.und, run_size h5.info, h5.size, h0, hl, Instr.sureAddr]
    · exact h.elim
  · exact h.elim

theorem gives_indexV (hC : C.Ok P) {t : TypeId} {x i : Value} {K : Value → Prop} (h : indexV C t x i K) : ∃ v, Gives P (Instr.index t x i) v ∧ K v := by
  unfold indexV at h
  split at h
  · rename_i s k n hs
    obtain ⟨ti, i, td, h1, h2, h3, h4⟩ := und_shape hC hs
    obtain ⟨h0, b, hb, h⟩ := h
    cases td <;> simp [D.agrees] at h4
    refine ⟨_, fun w => ?_, h⟩
    simp [Instr.index, asIntOf, run_und h3.und, h0, hb]
  · exact h.elim

theorem gives_extractV {x : Value} {i : Nat} {K : Value → Prop} (h : extractV x i K) : ∃ v, Gives P (Instr.extract x i) v ∧ K v := by
  unfold extractV at h
  split at h
  · rename_i vs
    split at h
    · rename_i v hv
      have hv' : vs[i]? = some v := by simpa using hv
      exact ⟨v, fun w => by simp [Instr.extract, hv'], h⟩
    · exact h.elim
  · exact h.elim

theorem gives_builtinV (hC : C.Ok P) {b : Builtin} {ts : Array TypeId} {ty : TypeId} {cs : Array Bool} {vs : List Value} {K : Value → Prop} (h : builtinV C b ts.toList vs K) :
    ∃ v, (∀ w, (builtin b ts ty cs vs.toArray).run P w = .ok (.value v) w) ∧ K v := by
  unfold builtinV at h
  split at h
  · rename_i p n c
    split at h
    · rename_i t ts' hts
      split at h
      · rename_i u hs
        obtain ⟨ti, i, td, h1, h2, h3, h4⟩ := und_shape hC hs
        cases td <;> simp [D.agrees] at h4
        refine ⟨_, fun w => ?_, h⟩
        have ht : ts[0]? = some t := by
          have : ts.toList[0]? = some t := by rw [hts]; rfl
          simpa using this
        simp [builtin, Builtin.len_, ht, run_und h3.und, goInt]
      · exact h.elim
    · exact h.elim
  · rename_i s
    split at h
    · rename_i t ts' hts
      split at h
      · rename_i hs
        obtain ⟨ti, i, td, h1, h2, h3, h4⟩ := und_shape hC hs
        cases td <;> simp [D.agrees] at h4
        refine ⟨_, fun w => ?_, h⟩
        have ht : ts[0]? = some t := by
          have : ts.toList[0]? = some t := by rw [hts]; rfl
          simpa using this
        simp [builtin, Builtin.len_, ht, run_und h3.und, goInt]
      · exact h.elim
    · exact h.elim
  all_goals first | exact h.elim | exact ⟨_, fun w => by simp [builtin, Builtin.max_, Builtin.max2, Builtin.min_, Builtin.min2, List.foldlM], h⟩

end Go.Eng

/- The engine, part 5: structs laid together; all that looks at no memory. -/
namespace Go.Eng
open Go Go.RowKit

variable {P : Program} {C : Tell}

theorem lawful : LawfulMonad Sem := LawfulMonad.mk' _ (id_map := fun x => Sem.bind_pure' x) (pure_bind := fun _ _ => rfl) (bind_assoc := fun x f g => Sem.bind_assoc' x f g)

theorem run_mapM {α β : Type} {f : α → Sem β} {g : α → β} : ∀ {l : List α}, (∀ x ∈ l, ∀ w, (f x).run P w = .ok (g x) w) → ∀ w, (l.mapM f).run P w = .ok (l.map g) w := by
  have := lawful
  intro l
  induction l with
  | nil => intro _ w; rfl
  | cons x l ih =>
    intro h w
    rw [List.mapM_cons]
    simp only [Sem.run_bind, h x (List.mem_cons_self ..) w, Result.andThen_ok, ih (fun y hy => h y (List.mem_cons_of_mem _ hy)) w, Sem.run_pure, List.map_cons]

theorem run_mapMA {α β : Type} {f : α → Sem β} {g : α → β} {l : Array α} (h : ∀ x ∈ l.toList, ∀ w, (f x).run P w = .ok (g x) w) (w : World) : (l.mapM f).run P w = .ok (l.map g) w := by
  have := lawful
  obtain ⟨l⟩ := l
  rw [List.mapM_toArray, Sem.run_map, run_mapM h]
  simp

theorem gives_buildV (hC : C.Ok P) {t : TypeId} {parts : Array (Nat × Value)} {K : Value → Prop} (h : buildV C t parts.toList K) : ∃ v, Gives P (Instr.build t parts) v ∧ K v := by
  unfold buildV at h
  split at h
  · rename_i ti hti
    obtain ⟨i, td, h1⟩ := tyIs hC hti
    split at h
    · rename_i fs hd
      split at h
      · rename_i hall
        split at h
        · rename_i cs hcs
          split at h
          · rename_i hlen
            have ha : ti.agg = true := by unfold TI.agg; rw [hd]
            have ht : ti.isTuple = false := by unfold TI.isTuple; rw [hd]
            have hag := h1.agrees
            rw [hd] at hag
            cases td <;> simp [D.agrees] at hag
            rename_i fs'
            refine ⟨_, fun w => ?_, h⟩
            have hz : ti.zero.cells = (ti.cells.map Sh.zero).toArray := by simp [TI.zero, ha, Value.cells]
            have hpl : ∀ x ∈ fs'.toList, ∀ w, ((do pure (x.offset, ← sizeOf x.type)) : Sem (Nat × Nat)).run P w = .ok (x.offset, sizeT C x.type) w := by
              intro x hx w
              have hm : (x.offset, x.type) ∈ fs := by rw [hag]; exact List.mem_map.2 ⟨x, hx, rfl⟩
              have := List.all_eq_true.1 hall _ hm
              obtain ⟨tu, htu⟩ := Option.isSome_iff_exists.1 this
              obtain ⟨i2, td2, h5⟩ := tyIs hC htu
              simp [sizeT, htu, run_size h5.info, h5.size]
            have hplace : placeOf C fs = (fun (i : Nat) => (fs'.map fun x => (x.offset, sizeT C x.type))[i]?) := by
              funext j
              unfold placeOf
              rw [hag]
              simp only [List.getElem?_map, Array.getElem?_map, Array.getElem?_toList]
              cases fs'[j]? <;> rfl
            rw [hplace] at hcs
            simp only [Instr.build, Sem.run_bind, run_zero h1 ht, Result.andThen_ok, run_und h1.und, run_mapMA hpl, hz]
            rw [hcs]
            rfl
          · exact h.elim
        · exact h.elim
      · exact h.elim
    · rename_i n u hd
      split at h
      · rename_i tu htu
        split at h
        · rename_i cs hcs
          have ha : ti.agg = true := by unfold TI.agg; rw [hd]
          have ht : ti.isTuple = false := by unfold TI.isTuple; rw [hd]
          have hag := h1.agrees
          rw [hd] at hag
          cases td <;> simp [D.agrees] at hag
          obtain ⟨hn, hu⟩ := hag
          subst hn hu
          obtain ⟨i2, td2, h5⟩ := tyIs hC htu
          refine ⟨_, fun w => ?_, h⟩
          have hz : ti.zero.cells = (ti.cells.map Sh.zero).toArray := by simp [TI.zero, ha, Value.cells]
          simp only [Instr.build, Sem.run_bind, run_zero h1 ht, Result.andThen_ok, run_und h1.und, run_size h5.info, h5.size, hz]
          rw [hcs]
          rfl
        · exact h.elim
      · exact h.elim
    · exact h.elim
  · exact h.elim

theorem partsV_sound {e : Env} {a : Act} (h : Fits e a.tmps) : ∀ {ps : List (Nat × Operand)} {vs : List (Nat × Value)}, partsV e ps = some vs → ps.map (fun (i, x) => (i, a.eval x)) = vs := by
  intro ps
  induction ps with
  | nil => intro vs hv; simpa [partsV] using hv
  | cons p ps ih =>
    obtain ⟨i, x⟩ := p
    intro vs hv
    simp only [partsV] at hv
    cases hx : eval e x with
    | none => simp [hx] at hv
    | some v =>
      cases hxs : partsV e ps with
      | none => simp [hx, hxs] at hv
      | some us =>
        simp [hx, hxs] at hv
        rw [← hv, List.map_cons, ih hxs]
        simp [eval_sound h hx]

theorem partsV_sound' {e : Env} {a : Act} (h : Fits e a.tmps) {ps : Array (Nat × Operand)} {vs : List (Nat × Value)} (hv : partsV e ps.toList = some vs) : ps.map (fun (i, x) => (i, a.eval x)) = vs.toArray := by
  have h1 := partsV_sound h hv
  apply Array.ext'
  rw [Array.toList_map, h1]

/-- an operation that is done without the world -/
def Still (P : Program) (a : Act) (o : Oper) (v : Value) : Prop := ∀ w, (execOp a.eval o).run P w = .ok (.value v) w

theorem still_of {a : Act} {o : Oper} {s : Sem Value} {K : Value → Prop} (he : execOp a.eval o = (do pure (Next.value (← s)))) (h : ∃ v, Gives P s v ∧ K v) : ∃ v, Still P a o v ∧ K v := by
  obtain ⟨v, h1, h2⟩ := h
  exact ⟨v, fun w => by rw [he]; simp only [Sem.run_bind, h1 w, Result.andThen_ok, Sem.run_pure], h2⟩

structure World2 (P : Program) (C : Tell) : Prop where
  ok : C.Ok P
  eq : EqOk P C
  eqG : ∀ t, C.eq t = true → P.eqGuardType P.depth t = false

theorem evPure_sound (hW : World2 P C) {a : Act} {e : Env} (hf : Fits e a.tmps) {o : Oper} {K : Value → Prop} (h : evPure C o e K) : ∃ v, Still P a o v ∧ K v := by
  have hC := hW.ok
  unfold evPure at h
  split at h
  · rename_i x hop
    split at h
    · rename_i v hv
      exact ⟨v, fun w => by simp [execOp, hop, eval_sound hf hv], h⟩
    · exact h.elim
  · rename_i x hop
    split at h
    · rename_i v hv
      exact ⟨v, fun w => by simp [execOp, hop, eval_sound hf hv], h⟩
    · exact h.elim
  · rename_i c x y hop
    split at h
    · rename_i b hb
      split at h
      · rename_i hb2
        split at h
        · rename_i v hv
          exact ⟨v, fun w => by simp [execOp, hop, eval_sound hf hv, eval_sound hf hb, asBool, hb2], h⟩
        · exact h.elim
      · rename_i hb2
        split at h
        · rename_i v hv
          exact ⟨v, fun w => by simp [execOp, hop, eval_sound hf hv, eval_sound hf hb, asBool, hb2], h⟩
        · exact h.elim
    · exact h.elim
  · rename_i t ps hop
    split at h
    · rename_i vs hv
      refine still_of (s := Instr.build t vs.toArray) (by simp only [execOp, hop]; rw [partsV_sound' hf hv]) (gives_buildV hC (by simpa using h))
    · exact h.elim
  · rename_i x hop
    split at h
    · rename_i p hp
      obtain ⟨ad, h1, h2⟩ := Nn_get h
      subst h1
      exact ⟨_, fun w => by simp [execOp, hop, eval_sound hf hp], h2⟩
    · exact h.elim
  · rename_i op t x y yt hop
    split at h
    · rename_i u v hu hv
      have h0 := gives_binV hC hW.eq h
      refine still_of (s := do eqGuard op t x y u v; binOp op t u v) (by simp only [execOp, hop, eval_sound hf hu, eval_sound hf hv]) ?_
      obtain ⟨r, h1, h2⟩ := h0
      refine ⟨r, fun w => ?_, h2⟩
      have hg : (eqGuard op t x y u v).run P w = .ok () w := by
        by_cases hag : ∃ cs, u = .agg cs
        · obtain ⟨cs, rfl⟩ := hag
          have h' : binE C op t (.agg cs) v K := by cases v <;> exact h
          have hC2 : ∀ neg, eqV C neg t (.agg cs) v K → (eqGuard op t x y (.agg cs) v).run P w = .ok () w := by
            intro neg hq
            unfold eqV at hq
            split at hq
            all_goals first | exact hq.elim | skip
            all_goals (try (rename_i heq _; cases heq))
            all_goals (try contradiction)
            rename_i ys hs heq
            split at hq
            · rename_i b he
              cases heq
              cases op <;> first | rfl | simp [eqGuard, hW.eqG t (eqT_told he)]
            · exact hq.elim
          unfold binE at h'
          split at h'
          · exact hC2 false h'
          · exact hC2 true h'
          · exact h'.elim
        · rw [eqGuard_no (fun hn => ?_) (fun cs hcs => hag ⟨cs, hcs⟩)]
          · rfl
          · subst hn
            have h' : binE C op t .nilIface v K := by cases v <;> exact h
            have hn : ∀ neg, ¬ eqV C neg t .nilIface v K := by
              intro neg hq
              unfold eqV at hq
              split at hq <;> first | exact hq.elim | contradiction
            unfold binE at h'
            split at h'
            · exact hn false h'
            · exact hn true h'
            · exact h'.elim
      simp only [Sem.run_bind, hg, Result.andThen_ok, h1 w]
    · exact h.elim
  · rename_i op t x hop
    split at h
    · rename_i u hu
      exact still_of (s := Op.unary op u) (by simp only [execOp, hop, eval_sound hf hu]) (gives_unV h)
    · exact h.elim
  · rename_i s d x hop
    split at h
    · rename_i u hu
      exact still_of (s := convert s d u) (by simp only [execOp, hop, eval_sound hf hu]) (gives_convV hC h)
    · exact h.elim
  · rename_i fn first captured hop
    split at h
    · rename_i u v hu hv
      refine still_of (s := Instr.makeFunc fn u.toArray v.toArray) (by simp only [execOp, hop]; rw [evals_sound' hf hu, evals_sound' hf hv]) ⟨_, fun w => rfl, h⟩
    · exact h.elim
  · rename_i t x f hop
    split at h
    · rename_i u hu
      exact still_of (s := Instr.fieldAt t u f) (by simp only [execOp, hop, eval_sound hf hu]) (gives_fieldAddrV hC h)
    · exact h.elim
  · rename_i t x f hop
    split at h
    · rename_i u hu
      exact still_of (s := Instr.field t u f) (by simp only [execOp, hop, eval_sound hf hu]) (gives_fieldV hC h)
    · exact h.elim
  · rename_i t x i hop
    split at h
    · rename_i u v hu hv
      exact still_of (s := Instr.indexAt t u v) (by simp only [execOp, hop, eval_sound hf hu, eval_sound hf hv]) (gives_indexAddrV hC h)
    · exact h.elim
  · rename_i t x i hop
    split at h
    · rename_i u v hu hv
      exact still_of (s := Instr.index t u v) (by simp only [execOp, hop, eval_sound hf hu, eval_sound hf hv]) (gives_indexV hC h)
    · exact h.elim
  · rename_i x i hop
    split at h
    · rename_i u hu
      exact still_of (s := Instr.extract u i) (by simp only [execOp, hop, eval_sound hf hu]) (gives_extractV h)
    · exact h.elim
  · rename_i c hop
    split at h
    · rename_i b hb
      split at h
      · rename_i vs hv
        obtain ⟨v, h1, h2⟩ := gives_builtinV hC (ty := o.type) (cs := c.args.map fun | .const _ => true | _ => false) h
        refine ⟨v, fun w => ?_, h2⟩
        simp only [execOp, hop, resolve, hb, Sem.run_bind, Sem.run_pure, Result.andThen_ok, invoke]
        rw [evals_sound' hf hv]
        exact h1 w
      · exact h.elim
    · exact h.elim
  · exact h.elim

end Go.Eng
