/- Proofs about the front of the overload controller, part 6: K0 C5. -/
import Derived.Test.YtdodcfbmpmapmaaGreatW03
import Derived.Test.YtdodcfbmpmapmaaGreatW05
import Derived.IntWalk
set_option linter.all false
set_option linter.constructorNameAsVariable false
set_option linter.unusedVariables false
namespace Go.M
open Go Go.Eng Go.RowKit
set_option linter.all false
set_option linter.constructorNameAsVariable false
set_option maxRecDepth 100000
attribute [local irreducible] evCode owes Owed

/-- overfall/lock.NewLock -/
def m_lock_NewLock (w0 : World) (K : Value → World → Prop) : Prop :=
  Al #[(.int .i64 0)] 223 w0 fun b1 w2 => K (.pointer (some (⟨b1, 0, none⟩ : Addr))) w2

theorem func_59 : P.funcs[59]? = some (fnOf 59) := by kernel_rfl
theorem body_59 : (fnOf 59).body = some (bodyOf 59) := by kernel_rfl
theorem m_lock_NewLock_owed : Owed P O0 (bodyOf 59) 1 := owed_of (cast (by kernel_rfl) True.intro)
theorem m_lock_NewLock_eq (w0 : World) (K : Value → World → Prop) : m_lock_NewLock w0 K = evCode T0 P O0 (bodyOf 59) 1 (env0 (Array.toList #[]) (fnOf 59).ntmps) w0 (endK T0 (fnOf 59).results.toList K) := by kernel_rfl
theorem m_lock_NewLock_ok {w0 : World} {K : Value → World → Prop} (h : m_lock_NewLock w0 K) : CallsV P 59 #[] w0 K :=
  func_sound W2 func_59 body_59 m_lock_NewLock_owed (Eq.mp (m_lock_NewLock_eq w0 K) h)


/-- overfall/lock.NewBox -/
def m_lock_NewBox (w0 : World) (K : Value → World → Prop) : Prop :=
  Al #[(.int .i32 0), (.int .u8 0), (.int .i64 0), (.int .i64 0), (.int .i64 0), (.int .u8 0), (.int .u64 0), (.int .i64 0), (.int .i64 0), (.int .i64 0)] 227 w0 fun b1 w2 => K (.pointer (some (⟨b1, 0, none⟩ : Addr))) w2

theorem func_60 : P.funcs[60]? = some (fnOf 60) := by kernel_rfl
theorem body_60 : (fnOf 60).body = some (bodyOf 60) := by kernel_rfl
theorem m_lock_NewBox_owed : Owed P O0 (bodyOf 60) 1 := owed_of (cast (by kernel_rfl) True.intro)
theorem m_lock_NewBox_eq (w0 : World) (K : Value → World → Prop) : m_lock_NewBox w0 K = evCode T0 P O0 (bodyOf 60) 1 (env0 (Array.toList #[]) (fnOf 60).ntmps) w0 (endK T0 (fnOf 60).results.toList K) := by kernel_rfl
theorem m_lock_NewBox_ok {w0 : World} {K : Value → World → Prop} (h : m_lock_NewBox w0 K) : CallsV P 60 #[] w0 K :=
  func_sound W2 func_60 body_60 m_lock_NewBox_owed (Eq.mp (m_lock_NewBox_eq w0 K) h)


/-- (*overfall/lock.Lock).Try -/
def m_lock_Lock_Try (l1 : Option Addr) (id2 : Int) (w0 : World) (K : Value → World → Prop) : Prop :=
  (if (!Option.isNone l1) = true then (if (decide (0 ≤ id2)) = true then Nn l1 fun l3 => CallsV P 62 #[(.pointer (some (l3.add 0))), (.int .i64 0), (.int .i64 (IntKind.wrap .i64 (id2 + 1)))] w0 fun v4 w5 => ∃ (b6 : Bool), v4 = (.bool b6) ∧ K (.bool b6) w5 else K (.bool false) w0) else K (.bool false) w0)

theorem func_70 : P.funcs[70]? = some (fnOf 70) := by kernel_rfl
theorem body_70 : (fnOf 70).body = some (bodyOf 70) := by kernel_rfl
theorem m_lock_Lock_Try_owed : Owed P O0 (bodyOf 70) 1 := owed_of (cast (by kernel_rfl) True.intro)
theorem m_lock_Lock_Try_eq (l1 : Option Addr) (id2 : Int) (w0 : World) (K : Value → World → Prop) : m_lock_Lock_Try l1 id2 w0 K = evCode T0 P O0 (bodyOf 70) 1 (env0 (Array.toList #[(.pointer l1), (.int .i64 id2)]) (fnOf 70).ntmps) w0 (endK T0 (fnOf 70).results.toList K) := by kernel_rfl
theorem m_lock_Lock_Try_ok {l1 : Option Addr} {id2 : Int} {w0 : World} {K : Value → World → Prop} (h : m_lock_Lock_Try l1 id2 w0 K) : CallsV P 70 #[(.pointer l1), (.int .i64 id2)] w0 K :=
  func_sound W2 func_70 body_70 m_lock_Lock_Try_owed (Eq.mp (m_lock_Lock_Try_eq l1 id2 w0 K) h)


/-- (*overfall/lock.Lock).Free -/
def m_lock_Lock_Free (l1 : Option Addr) (id2 : Int) (w0 : World) (K : Value → World → Prop) : Prop :=
  (if (!Option.isNone l1) = true then (if (decide (0 ≤ id2)) = true then Nn l1 fun l3 => CallsV P 62 #[(.pointer (some (l3.add 0))), (.int .i64 (IntKind.wrap .i64 (id2 + 1))), (.int .i64 0)] w0 fun v4 w5 => ∃ (b6 : Bool), v4 = (.bool b6) ∧ K (.bool b6) w5 else K (.bool false) w0) else K (.bool false) w0)

theorem func_75 : P.funcs[75]? = some (fnOf 75) := by kernel_rfl
theorem body_75 : (fnOf 75).body = some (bodyOf 75) := by kernel_rfl
theorem m_lock_Lock_Free_owed : Owed P O0 (bodyOf 75) 1 := owed_of (cast (by kernel_rfl) True.intro)
theorem m_lock_Lock_Free_eq (l1 : Option Addr) (id2 : Int) (w0 : World) (K : Value → World → Prop) : m_lock_Lock_Free l1 id2 w0 K = evCode T0 P O0 (bodyOf 75) 1 (env0 (Array.toList #[(.pointer l1), (.int .i64 id2)]) (fnOf 75).ntmps) w0 (endK T0 (fnOf 75).results.toList K) := by kernel_rfl
theorem m_lock_Lock_Free_ok {l1 : Option Addr} {id2 : Int} {w0 : World} {K : Value → World → Prop} (h : m_lock_Lock_Free l1 id2 w0 K) : CallsV P 75 #[(.pointer l1), (.int .i64 id2)] w0 K :=
  func_sound W2 func_75 body_75 m_lock_Lock_Free_owed (Eq.mp (m_lock_Lock_Free_eq l1 id2 w0 K) h)


def m_lock_Box_Post_c3 (vs : List Value) (w0 : World) (out : Nat × List Value → World → Prop) : Prop :=
  match vs with
  | [.pointer b12, .pointer (some op13)] => ∃ (n14 : Int), World.cell? w0 (op13.add 0) = some (.int .u8 n14) ∧ ∃ (n15 : Int), World.cell? w0 (op13.add 1) = some (.int .i64 n15) ∧ ∃ (n16 : Int), World.cell? w0 (op13.add 2) = some (.int .i64 n16) ∧ ∃ (n17 : Int), World.cell? w0 (op13.add 3) = some (.int .i64 n17) ∧ Nn b12 fun b18 => St ((b18.add 1).add 0) (.int .u8 n14) w0 fun w19 => St ((b18.add 1).add 1) (.int .i64 n15) w19 fun w20 => St ((b18.add 1).add 2) (.int .i64 n16) w20 fun w21 => St ((b18.add 1).add 3) (.int .i64 n17) w21 fun w22 => Nn b12 fun b23 => CallsV P 111 #[(.pointer (some (b23.add 0))), (.int .i32 1)] w22 fun v24 w25 => v24 = (.tuple #[]) ∧ out (0, [(.bool true)]) w25
  | _ => False

def m_lock_Box_Post_c3_o (y : Nat × List Value) (k0 : Bool → Prop) : Prop :=
  match y with
  | (0, [.bool b26]) => k0 b26
  | _ => False

/-- (*overfall/lock.Box).Post -/
def m_lock_Box_Post (b1 : Option Addr) (op2 : Int) (op3 : Int) (op4 : Int) (op5 : Int) (w0 : World) (K : Value → World → Prop) : Prop :=
  Al #[(.int .u8 op2), (.int .i64 op3), (.int .i64 op4), (.int .i64 op5)] 32 w0 fun b6 w7 => (if (Option.isNone b1) = true then K (.bool false) w7 else Nn b1 fun b8 => CallsV P 110 #[(.pointer (some (b8.add 0)))] w7 fun v9 w10 => ∃ (n11 : Int), v9 = (.int .i32 n11) ∧ (if (!decide (n11 = 0)) = true then K (.bool false) w10 else m_lock_Box_Post_c3 [(.pointer b1), (.pointer (some (⟨b6, 0, none⟩ : Addr)))] w10 fun y28 w27 => m_lock_Box_Post_c3_o y28 (fun b29 => K (.bool b29) w27)))

theorem func_66 : P.funcs[66]? = some (fnOf 66) := by kernel_rfl
theorem body_66 : (fnOf 66).body = some (bodyOf 66) := by kernel_rfl
def m_lock_Box_Post_c3_p (y : Nat × List Value) (k : Nat × List Value → Prop) : Prop := m_lock_Box_Post_c3_o y (fun b26 => k (0, [(.bool b26)]))
theorem m_lock_Box_Post_c3_pok : ∀ y k, m_lock_Box_Post_c3_p y k → k y := by
  intro y k h
  unfold m_lock_Box_Post_c3_p m_lock_Box_Post_c3_o at h
  split at h <;> first | exact h | exact h.elim
def m_lock_Box_Post_c3_E : Env → World → Kont → Prop := (fun e w k => takeK 22 [0, 3] e fun vs => m_lock_Box_Post_c3 vs w fun y w => m_lock_Box_Post_c3_p y fun y => outK 22 [(.ret, [4])] k y w)
def O_m_lock_Box_Post : Orac := { loop := fun p => (fun _ _ _ => False), cut := fun p => cond (Nat.beq p 3) (some m_lock_Box_Post_c3_E) (none) }
theorem m_lock_Box_Post_c3_owed : Owed P O_m_lock_Box_Post (codeAt (bodyOf 66) [true, true]) 7 := owed_of (cast (by kernel_rfl) True.intro)
theorem m_lock_Box_Post_c3_ok : Sound P (codeAt (bodyOf 66) [true, true]) m_lock_Box_Post_c3_E := by
  refine piece_sound (evCode_sound W2 O_m_lock_Box_Post (codeAt (bodyOf 66) [true, true]) 7 m_lock_Box_Post_c3_owed) 22 [0, 3] [(.ret, [4])] m_lock_Box_Post_c3 ?_ m_lock_Box_Post_c3_p m_lock_Box_Post_c3_pok
  intro vs w out h
  unfold m_lock_Box_Post_c3 at h
  split at h
  · exact cast (by kernel_rfl) h
  · exact h.elim
theorem m_lock_Box_Post_owed : Owed P O_m_lock_Box_Post (bodyOf 66) 1 := owed_of (cast (by kernel_rfl) m_lock_Box_Post_c3_ok)
theorem m_lock_Box_Post_eq (b1 : Option Addr) (op2 : Int) (op3 : Int) (op4 : Int) (op5 : Int) (w0 : World) (K : Value → World → Prop) : m_lock_Box_Post b1 op2 op3 op4 op5 w0 K = evCode T0 P O_m_lock_Box_Post (bodyOf 66) 1 (env0 (Array.toList #[(.pointer b1), (.agg #[(.int .u8 op2), (.int .i64 op3), (.int .i64 op4), (.int .i64 op5)])]) (fnOf 66).ntmps) w0 (endK T0 (fnOf 66).results.toList K) := by kernel_rfl
theorem m_lock_Box_Post_ok {b1 : Option Addr} {op2 : Int} {op3 : Int} {op4 : Int} {op5 : Int} {w0 : World} {K : Value → World → Prop} (h : m_lock_Box_Post b1 op2 op3 op4 op5 w0 K) : CallsV P 66 #[(.pointer b1), (.agg #[(.int .u8 op2), (.int .i64 op3), (.int .i64 op4), (.int .i64 op5)])] w0 K :=
  func_sound W2 func_66 body_66 m_lock_Box_Post_owed (Eq.mp (m_lock_Box_Post_eq b1 op2 op3 op4 op5 w0 K) h)


def m_lock_Box_Finish_c3 (vs : List Value) (w0 : World) (out : Nat × List Value → World → Prop) : Prop :=
  match vs with
  | [.pointer b13, .pointer (some r14)] => ∃ (n15 : Int), World.cell? w0 (r14.add 0) = some (.int .u8 n15) ∧ ∃ (n16 : Int), World.cell? w0 (r14.add 1) = some (.int .u64 n16) ∧ ∃ (n17 : Int), World.cell? w0 (r14.add 2) = some (.int .i64 n17) ∧ ∃ (n18 : Int), World.cell? w0 (r14.add 3) = some (.int .i64 n18) ∧ ∃ (n19 : Int), World.cell? w0 (r14.add 4) = some (.int .i64 n19) ∧ Nn b13 fun b20 => St ((b20.add 5).add 0) (.int .u8 n15) w0 fun w21 => St ((b20.add 5).add 1) (.int .u64 n16) w21 fun w22 => St ((b20.add 5).add 2) (.int .i64 n17) w22 fun w23 => St ((b20.add 5).add 3) (.int .i64 n18) w23 fun w24 => St ((b20.add 5).add 4) (.int .i64 n19) w24 fun w25 => Nn b13 fun b26 => CallsV P 111 #[(.pointer (some (b26.add 0))), (.int .i32 2)] w25 fun v27 w28 => v27 = (.tuple #[]) ∧ out (0, [(.bool true)]) w28
  | _ => False

def m_lock_Box_Finish_c3_o (y : Nat × List Value) (k0 : Bool → Prop) : Prop :=
  match y with
  | (0, [.bool b29]) => k0 b29
  | _ => False

/-- (*overfall/lock.Box).Finish -/
def m_lock_Box_Finish (b1 : Option Addr) (r2 : Int) (r3 : Int) (r4 : Int) (r5 : Int) (r6 : Int) (w0 : World) (K : Value → World → Prop) : Prop :=
  Al #[(.int .u8 r2), (.int .u64 r3), (.int .i64 r4), (.int .i64 r5), (.int .i64 r6)] 42 w0 fun b7 w8 => (if (Option.isNone b1) = true then K (.bool false) w8 else Nn b1 fun b9 => CallsV P 110 #[(.pointer (some (b9.add 0)))] w8 fun v10 w11 => ∃ (n12 : Int), v10 = (.int .i32 n12) ∧ (if (!decide (n12 = 1)) = true then K (.bool false) w11 else m_lock_Box_Finish_c3 [(.pointer b1), (.pointer (some (⟨b7, 0, none⟩ : Addr)))] w11 fun y31 w30 => m_lock_Box_Finish_c3_o y31 (fun b32 => K (.bool b32) w30)))

theorem func_117 : P.funcs[117]? = some (fnOf 117) := by kernel_rfl
theorem body_117 : (fnOf 117).body = some (bodyOf 117) := by kernel_rfl
def m_lock_Box_Finish_c3_p (y : Nat × List Value) (k : Nat × List Value → Prop) : Prop := m_lock_Box_Finish_c3_o y (fun b29 => k (0, [(.bool b29)]))
theorem m_lock_Box_Finish_c3_pok : ∀ y k, m_lock_Box_Finish_c3_p y k → k y := by
  intro y k h
  unfold m_lock_Box_Finish_c3_p m_lock_Box_Finish_c3_o at h
  split at h <;> first | exact h | exact h.elim
def m_lock_Box_Finish_c3_E : Env → World → Kont → Prop := (fun e w k => takeK 22 [0, 3] e fun vs => m_lock_Box_Finish_c3 vs w fun y w => m_lock_Box_Finish_c3_p y fun y => outK 22 [(.ret, [4])] k y w)
def O_m_lock_Box_Finish : Orac := { loop := fun p => (fun _ _ _ => False), cut := fun p => cond (Nat.beq p 3) (some m_lock_Box_Finish_c3_E) (none) }
theorem m_lock_Box_Finish_c3_owed : Owed P O_m_lock_Box_Finish (codeAt (bodyOf 117) [true, true]) 7 := owed_of (cast (by kernel_rfl) True.intro)
theorem m_lock_Box_Finish_c3_ok : Sound P (codeAt (bodyOf 117) [true, true]) m_lock_Box_Finish_c3_E := by
  refine piece_sound (evCode_sound W2 O_m_lock_Box_Finish (codeAt (bodyOf 117) [true, true]) 7 m_lock_Box_Finish_c3_owed) 22 [0, 3] [(.ret, [4])] m_lock_Box_Finish_c3 ?_ m_lock_Box_Finish_c3_p m_lock_Box_Finish_c3_pok
  intro vs w out h
  unfold m_lock_Box_Finish_c3 at h
  split at h
  · exact cast (by kernel_rfl) h
  · exact h.elim
theorem m_lock_Box_Finish_owed : Owed P O_m_lock_Box_Finish (bodyOf 117) 1 := owed_of (cast (by kernel_rfl) m_lock_Box_Finish_c3_ok)
theorem m_lock_Box_Finish_eq (b1 : Option Addr) (r2 : Int) (r3 : Int) (r4 : Int) (r5 : Int) (r6 : Int) (w0 : World) (K : Value → World → Prop) : m_lock_Box_Finish b1 r2 r3 r4 r5 r6 w0 K = evCode T0 P O_m_lock_Box_Finish (bodyOf 117) 1 (env0 (Array.toList #[(.pointer b1), (.agg #[(.int .u8 r2), (.int .u64 r3), (.int .i64 r4), (.int .i64 r5), (.int .i64 r6)])]) (fnOf 117).ntmps) w0 (endK T0 (fnOf 117).results.toList K) := by kernel_rfl
theorem m_lock_Box_Finish_ok {b1 : Option Addr} {r2 : Int} {r3 : Int} {r4 : Int} {r5 : Int} {r6 : Int} {w0 : World} {K : Value → World → Prop} (h : m_lock_Box_Finish b1 r2 r3 r4 r5 r6 w0 K) : CallsV P 117 #[(.pointer b1), (.agg #[(.int .u8 r2), (.int .u64 r3), (.int .i64 r4), (.int .i64 r5), (.int .i64 r6)])] w0 K :=
  func_sound W2 func_117 body_117 m_lock_Box_Finish_owed (Eq.mp (m_lock_Box_Finish_eq b1 r2 r3 r4 r5 r6 w0 K) h)


/-- (*overfall/lock.Box).Collect -/
def m_lock_Box_Collect (b1 : Option Addr) (w0 : World) (K : Value → World → Prop) : Prop :=
  Al #[(.int .u8 0), (.int .u64 0), (.int .i64 0), (.int .i64 0), (.int .i64 0)] 42 w0 fun b2 w3 => CallsV P 173 #[(.pointer b1)] w3 fun v4 w5 => ∃ (n6 : Int), v4 = (.int .i64 n6) ∧ (if (!decide (n6 = 2)) = true then St ((⟨b2, 0, none⟩ : Addr).add 0) (.int .u8 0) w5 fun w7 => St ((⟨b2, 0, none⟩ : Addr).add 1) (.int .u64 0) w7 fun w8 => St ((⟨b2, 0, none⟩ : Addr).add 2) (.int .i64 0) w8 fun w9 => St ((⟨b2, 0, none⟩ : Addr).add 3) (.int .i64 0) w9 fun w10 => St ((⟨b2, 0, none⟩ : Addr).add 4) (.int .i64 0) w10 fun w11 => ∃ (r12 : Int), World.cell? w11 ((⟨b2, 0, none⟩ : Addr).add 0) = some (.int .u8 r12) ∧ ∃ (r13 : Int), World.cell? w11 ((⟨b2, 0, none⟩ : Addr).add 1) = some (.int .u64 r13) ∧ ∃ (r14 : Int), World.cell? w11 ((⟨b2, 0, none⟩ : Addr).add 2) = some (.int .i64 r14) ∧ ∃ (r15 : Int), World.cell? w11 ((⟨b2, 0, none⟩ : Addr).add 3) = some (.int .i64 r15) ∧ ∃ (r16 : Int), World.cell? w11 ((⟨b2, 0, none⟩ : Addr).add 4) = some (.int .i64 r16) ∧ K (.tuple #[(.agg #[(.int .u8 r12), (.int .u64 r13), (.int .i64 r14), (.int .i64 r15), (.int .i64 r16)]), (.bool false)]) w11 else Nn b1 fun b17 => ∃ (n18 : Int), World.cell? w5 ((b17.add 5).add 0) = some (.int .u8 n18) ∧ ∃ (n19 : Int), World.cell? w5 ((b17.add 5).add 1) = some (.int .u64 n19) ∧ ∃ (n20 : Int), World.cell? w5 ((b17.add 5).add 2) = some (.int .i64 n20) ∧ ∃ (n21 : Int), World.cell? w5 ((b17.add 5).add 3) = some (.int .i64 n21) ∧ ∃ (n22 : Int), World.cell? w5 ((b17.add 5).add 4) = some (.int .i64 n22) ∧ Al #[(.int .u8 0), (.int .u64 0), (.int .i64 0), (.int .i64 0), (.int .i64 0)] 42 w5 fun b23 w24 => St ((⟨b23, 0, none⟩ : Addr).add 0) (.int .u8 n18) w24 fun w25 => St ((⟨b23, 0, none⟩ : Addr).add 1) (.int .u64 n19) w25 fun w26 => St ((⟨b23, 0, none⟩ : Addr).add 2) (.int .i64 n20) w26 fun w27 => St ((⟨b23, 0, none⟩ : Addr).add 3) (.int .i64 n21) w27 fun w28 => St ((⟨b23, 0, none⟩ : Addr).add 4) (.int .i64 n22) w28 fun w29 => Nn b1 fun b30 => CallsV P 111 #[(.pointer (some (b30.add 0))), (.int .i32 0)] w29 fun v31 w32 => v31 = (.tuple #[]) ∧ ∃ (n33 : Int), World.cell? w32 ((⟨b23, 0, none⟩ : Addr).add 0) = some (.int .u8 n33) ∧ ∃ (n34 : Int), World.cell? w32 ((⟨b23, 0, none⟩ : Addr).add 1) = some (.int .u64 n34) ∧ ∃ (n35 : Int), World.cell? w32 ((⟨b23, 0, none⟩ : Addr).add 2) = some (.int .i64 n35) ∧ ∃ (n36 : Int), World.cell? w32 ((⟨b23, 0, none⟩ : Addr).add 3) = some (.int .i64 n36) ∧ ∃ (n37 : Int), World.cell? w32 ((⟨b23, 0, none⟩ : Addr).add 4) = some (.int .i64 n37) ∧ St ((⟨b2, 0, none⟩ : Addr).add 0) (.int .u8 n33) w32 fun w38 => St ((⟨b2, 0, none⟩ : Addr).add 1) (.int .u64 n34) w38 fun w39 => St ((⟨b2, 0, none⟩ : Addr).add 2) (.int .i64 n35) w39 fun w40 => St ((⟨b2, 0, none⟩ : Addr).add 3) (.int .i64 n36) w40 fun w41 => St ((⟨b2, 0, none⟩ : Addr).add 4) (.int .i64 n37) w41 fun w42 => ∃ (r43 : Int), World.cell? w42 ((⟨b2, 0, none⟩ : Addr).add 0) = some (.int .u8 r43) ∧ ∃ (r44 : Int), World.cell? w42 ((⟨b2, 0, none⟩ : Addr).add 1) = some (.int .u64 r44) ∧ ∃ (r45 : Int), World.cell? w42 ((⟨b2, 0, none⟩ : Addr).add 2) = some (.int .i64 r45) ∧ ∃ (r46 : Int), World.cell? w42 ((⟨b2, 0, none⟩ : Addr).add 3) = some (.int .i64 r46) ∧ ∃ (r47 : Int), World.cell? w42 ((⟨b2, 0, none⟩ : Addr).add 4) = some (.int .i64 r47) ∧ K (.tuple #[(.agg #[(.int .u8 r43), (.int .u64 r44), (.int .i64 r45), (.int .i64 r46), (.int .i64 r47)]), (.bool true)]) w42)

theorem func_118 : P.funcs[118]? = some (fnOf 118) := by kernel_rfl
theorem body_118 : (fnOf 118).body = some (bodyOf 118) := by kernel_rfl
theorem m_lock_Box_Collect_owed : Owed P O0 (bodyOf 118) 1 := owed_of (cast (by kernel_rfl) True.intro)
theorem m_lock_Box_Collect_eq (b1 : Option Addr) (w0 : World) (K : Value → World → Prop) : m_lock_Box_Collect b1 w0 K = evCode T0 P O0 (bodyOf 118) 1 (env0 (Array.toList #[(.pointer b1)]) (fnOf 118).ntmps) w0 (endK T0 (fnOf 118).results.toList K) := by kernel_rfl
theorem m_lock_Box_Collect_ok {b1 : Option Addr} {w0 : World} {K : Value → World → Prop} (h : m_lock_Box_Collect b1 w0 K) : CallsV P 118 #[(.pointer b1)] w0 K :=
  func_sound W2 func_118 body_118 m_lock_Box_Collect_owed (Eq.mp (m_lock_Box_Collect_eq b1 w0 K) h)


/-- (*overfall/lock.Box).Op -/
def m_lock_Box_Op (b1 : Option Addr) (w0 : World) (K : Value → World → Prop) : Prop :=
  Al #[(.int .u8 0), (.int .i64 0), (.int .i64 0), (.int .i64 0)] 32 w0 fun b2 w3 => CallsV P 173 #[(.pointer b1)] w3 fun v4 w5 => ∃ (n6 : Int), v4 = (.int .i64 n6) ∧ (if (!decide (n6 = 1)) = true then St ((⟨b2, 0, none⟩ : Addr).add 0) (.int .u8 0) w5 fun w7 => St ((⟨b2, 0, none⟩ : Addr).add 1) (.int .i64 0) w7 fun w8 => St ((⟨b2, 0, none⟩ : Addr).add 2) (.int .i64 0) w8 fun w9 => St ((⟨b2, 0, none⟩ : Addr).add 3) (.int .i64 0) w9 fun w10 => ∃ (r11 : Int), World.cell? w10 ((⟨b2, 0, none⟩ : Addr).add 0) = some (.int .u8 r11) ∧ ∃ (r12 : Int), World.cell? w10 ((⟨b2, 0, none⟩ : Addr).add 1) = some (.int .i64 r12) ∧ ∃ (r13 : Int), World.cell? w10 ((⟨b2, 0, none⟩ : Addr).add 2) = some (.int .i64 r13) ∧ ∃ (r14 : Int), World.cell? w10 ((⟨b2, 0, none⟩ : Addr).add 3) = some (.int .i64 r14) ∧ K (.tuple #[(.agg #[(.int .u8 r11), (.int .i64 r12), (.int .i64 r13), (.int .i64 r14)]), (.bool false)]) w10 else Nn b1 fun b15 => ∃ (n16 : Int), World.cell? w5 ((b15.add 1).add 0) = some (.int .u8 n16) ∧ ∃ (n17 : Int), World.cell? w5 ((b15.add 1).add 1) = some (.int .i64 n17) ∧ ∃ (n18 : Int), World.cell? w5 ((b15.add 1).add 2) = some (.int .i64 n18) ∧ ∃ (n19 : Int), World.cell? w5 ((b15.add 1).add 3) = some (.int .i64 n19) ∧ St ((⟨b2, 0, none⟩ : Addr).add 0) (.int .u8 n16) w5 fun w20 => St ((⟨b2, 0, none⟩ : Addr).add 1) (.int .i64 n17) w20 fun w21 => St ((⟨b2, 0, none⟩ : Addr).add 2) (.int .i64 n18) w21 fun w22 => St ((⟨b2, 0, none⟩ : Addr).add 3) (.int .i64 n19) w22 fun w23 => ∃ (r24 : Int), World.cell? w23 ((⟨b2, 0, none⟩ : Addr).add 0) = some (.int .u8 r24) ∧ ∃ (r25 : Int), World.cell? w23 ((⟨b2, 0, none⟩ : Addr).add 1) = some (.int .i64 r25) ∧ ∃ (r26 : Int), World.cell? w23 ((⟨b2, 0, none⟩ : Addr).add 2) = some (.int .i64 r26) ∧ ∃ (r27 : Int), World.cell? w23 ((⟨b2, 0, none⟩ : Addr).add 3) = some (.int .i64 r27) ∧ K (.tuple #[(.agg #[(.int .u8 r24), (.int .i64 r25), (.int .i64 r26), (.int .i64 r27)]), (.bool true)]) w23)

theorem func_121 : P.funcs[121]? = some (fnOf 121) := by kernel_rfl
theorem body_121 : (fnOf 121).body = some (bodyOf 121) := by kernel_rfl
theorem m_lock_Box_Op_owed : Owed P O0 (bodyOf 121) 1 := owed_of (cast (by kernel_rfl) True.intro)
theorem m_lock_Box_Op_eq (b1 : Option Addr) (w0 : World) (K : Value → World → Prop) : m_lock_Box_Op b1 w0 K = evCode T0 P O0 (bodyOf 121) 1 (env0 (Array.toList #[(.pointer b1)]) (fnOf 121).ntmps) w0 (endK T0 (fnOf 121).results.toList K) := by kernel_rfl
theorem m_lock_Box_Op_ok {b1 : Option Addr} {w0 : World} {K : Value → World → Prop} (h : m_lock_Box_Op b1 w0 K) : CallsV P 121 #[(.pointer b1)] w0 K :=
  func_sound W2 func_121 body_121 m_lock_Box_Op_owed (Eq.mp (m_lock_Box_Op_eq b1 w0 K) h)


/-- (*overfall/lock.Box).State -/
def m_lock_Box_State (b1 : Option Addr) (w0 : World) (K : Value → World → Prop) : Prop :=
  (if (Option.isNone b1) = true then K (.int .i64 0) w0 else Nn b1 fun b2 => CallsV P 110 #[(.pointer (some (b2.add 0)))] w0 fun v3 w4 => ∃ (n5 : Int), v3 = (.int .i32 n5) ∧ K (.int .i64 (IntKind.wrap .i64 (n5))) w4)

theorem func_173 : P.funcs[173]? = some (fnOf 173) := by kernel_rfl
theorem body_173 : (fnOf 173).body = some (bodyOf 173) := by kernel_rfl
theorem m_lock_Box_State_owed : Owed P O0 (bodyOf 173) 1 := owed_of (cast (by kernel_rfl) True.intro)
theorem m_lock_Box_State_eq (b1 : Option Addr) (w0 : World) (K : Value → World → Prop) : m_lock_Box_State b1 w0 K = evCode T0 P O0 (bodyOf 173) 1 (env0 (Array.toList #[(.pointer b1)]) (fnOf 173).ntmps) w0 (endK T0 (fnOf 173).results.toList K) := by kernel_rfl
theorem m_lock_Box_State_ok {b1 : Option Addr} {w0 : World} {K : Value → World → Prop} (h : m_lock_Box_State b1 w0 K) : CallsV P 173 #[(.pointer b1)] w0 K :=
  func_sound W2 func_173 body_173 m_lock_Box_State_owed (Eq.mp (m_lock_Box_State_eq b1 w0 K) h)


/-- (*sync/atomic.Int64).Load -/
def m_sync_atomic_Int64_Load (x1 : Option Addr) (w0 : World) (K : Value → World → Prop) : Prop :=
  Nn x1 fun x2 => ∃ (n3 : Int), World.cell? w0 (x2.add 0) = some (.int .i64 n3) ∧ K (.int .i64 n3) w0

theorem func_61 : P.funcs[61]? = some (fnOf 61) := by kernel_rfl
theorem body_61 : (fnOf 61).body = some (bodyOf 61) := by kernel_rfl
theorem m_sync_atomic_Int64_Load_owed : Owed P O0 (bodyOf 61) 1 := owed_of (cast (by kernel_rfl) True.intro)
theorem m_sync_atomic_Int64_Load_eq (x1 : Option Addr) (w0 : World) (K : Value → World → Prop) : m_sync_atomic_Int64_Load x1 w0 K = evCode T0 P O0 (bodyOf 61) 1 (env0 (Array.toList #[(.pointer x1)]) (fnOf 61).ntmps) w0 (endK T0 (fnOf 61).results.toList K) := by kernel_rfl
theorem m_sync_atomic_Int64_Load_ok {x1 : Option Addr} {w0 : World} {K : Value → World → Prop} (h : m_sync_atomic_Int64_Load x1 w0 K) : CallsV P 61 #[(.pointer x1)] w0 K :=
  func_sound W2 func_61 body_61 m_sync_atomic_Int64_Load_owed (Eq.mp (m_sync_atomic_Int64_Load_eq x1 w0 K) h)


/-- (*sync/atomic.Int64).CompareAndSwap -/
def m_sync_atomic_Int64_CompareAndSwap (x1 : Option Addr) (old2 : Int) (new3 : Int) (w0 : World) (K : Value → World → Prop) : Prop :=
  Nn x1 fun x4 => ∃ (n5 : Int), World.cell? w0 (x4.add 0) = some (.int .i64 n5) ∧ World.frozen? w0 (x4.add 0) = false ∧ (if n5 = old2 then K (.bool true) (World.setCell w0 (x4.add 0) (.int .i64 new3)) else K (.bool false) w0)

theorem func_62 : P.funcs[62]? = some (fnOf 62) := by kernel_rfl
theorem body_62 : (fnOf 62).body = some (bodyOf 62) := by kernel_rfl
theorem m_sync_atomic_Int64_CompareAndSwap_owed : Owed P O0 (bodyOf 62) 1 := owed_of (cast (by kernel_rfl) True.intro)
theorem m_sync_atomic_Int64_CompareAndSwap_eq (x1 : Option Addr) (old2 : Int) (new3 : Int) (w0 : World) (K : Value → World → Prop) : m_sync_atomic_Int64_CompareAndSwap x1 old2 new3 w0 K = evCode T0 P O0 (bodyOf 62) 1 (env0 (Array.toList #[(.pointer x1), (.int .i64 old2), (.int .i64 new3)]) (fnOf 62).ntmps) w0 (endK T0 (fnOf 62).results.toList K) := by kernel_rfl
theorem m_sync_atomic_Int64_CompareAndSwap_ok {x1 : Option Addr} {old2 : Int} {new3 : Int} {w0 : World} {K : Value → World → Prop} (h : m_sync_atomic_Int64_CompareAndSwap x1 old2 new3 w0 K) : CallsV P 62 #[(.pointer x1), (.int .i64 old2), (.int .i64 new3)] w0 K :=
  func_sound W2 func_62 body_62 m_sync_atomic_Int64_CompareAndSwap_owed (Eq.mp (m_sync_atomic_Int64_CompareAndSwap_eq x1 old2 new3 w0 K) h)


/-- (*sync/atomic.Uint64).Store -/
def m_sync_atomic_Uint64_Store (x1 : Option Addr) (val2 : Int) (w0 : World) (K : Value → World → Prop) : Prop :=
  Nn x1 fun x3 => St (x3.add 0) (.int .u64 val2) w0 fun w4 => K (.tuple #[]) w4

theorem func_106 : P.funcs[106]? = some (fnOf 106) := by kernel_rfl
theorem body_106 : (fnOf 106).body = some (bodyOf 106) := by kernel_rfl
theorem m_sync_atomic_Uint64_Store_owed : Owed P O0 (bodyOf 106) 1 := owed_of (cast (by kernel_rfl) True.intro)
theorem m_sync_atomic_Uint64_Store_eq (x1 : Option Addr) (val2 : Int) (w0 : World) (K : Value → World → Prop) : m_sync_atomic_Uint64_Store x1 val2 w0 K = evCode T0 P O0 (bodyOf 106) 1 (env0 (Array.toList #[(.pointer x1), (.int .u64 val2)]) (fnOf 106).ntmps) w0 (endK T0 (fnOf 106).results.toList K) := by kernel_rfl
theorem m_sync_atomic_Uint64_Store_ok {x1 : Option Addr} {val2 : Int} {w0 : World} {K : Value → World → Prop} (h : m_sync_atomic_Uint64_Store x1 val2 w0 K) : CallsV P 106 #[(.pointer x1), (.int .u64 val2)] w0 K :=
  func_sound W2 func_106 body_106 m_sync_atomic_Uint64_Store_owed (Eq.mp (m_sync_atomic_Uint64_Store_eq x1 val2 w0 K) h)


/-- (*sync/atomic.Int32).Load -/
def m_sync_atomic_Int32_Load (x1 : Option Addr) (w0 : World) (K : Value → World → Prop) : Prop :=
  Nn x1 fun x2 => ∃ (n3 : Int), World.cell? w0 (x2.add 0) = some (.int .i32 n3) ∧ K (.int .i32 n3) w0

theorem func_110 : P.funcs[110]? = some (fnOf 110) := by kernel_rfl
theorem body_110 : (fnOf 110).body = some (bodyOf 110) := by kernel_rfl
theorem m_sync_atomic_Int32_Load_owed : Owed P O0 (bodyOf 110) 1 := owed_of (cast (by kernel_rfl) True.intro)
theorem m_sync_atomic_Int32_Load_eq (x1 : Option Addr) (w0 : World) (K : Value → World → Prop) : m_sync_atomic_Int32_Load x1 w0 K = evCode T0 P O0 (bodyOf 110) 1 (env0 (Array.toList #[(.pointer x1)]) (fnOf 110).ntmps) w0 (endK T0 (fnOf 110).results.toList K) := by kernel_rfl
theorem m_sync_atomic_Int32_Load_ok {x1 : Option Addr} {w0 : World} {K : Value → World → Prop} (h : m_sync_atomic_Int32_Load x1 w0 K) : CallsV P 110 #[(.pointer x1)] w0 K :=
  func_sound W2 func_110 body_110 m_sync_atomic_Int32_Load_owed (Eq.mp (m_sync_atomic_Int32_Load_eq x1 w0 K) h)


/-- (*sync/atomic.Int32).Store -/
def m_sync_atomic_Int32_Store (x1 : Option Addr) (val2 : Int) (w0 : World) (K : Value → World → Prop) : Prop :=
  Nn x1 fun x3 => St (x3.add 0) (.int .i32 val2) w0 fun w4 => K (.tuple #[]) w4

theorem func_111 : P.funcs[111]? = some (fnOf 111) := by kernel_rfl
theorem body_111 : (fnOf 111).body = some (bodyOf 111) := by kernel_rfl
theorem m_sync_atomic_Int32_Store_owed : Owed P O0 (bodyOf 111) 1 := owed_of (cast (by kernel_rfl) True.intro)
theorem m_sync_atomic_Int32_Store_eq (x1 : Option Addr) (val2 : Int) (w0 : World) (K : Value → World → Prop) : m_sync_atomic_Int32_Store x1 val2 w0 K = evCode T0 P O0 (bodyOf 111) 1 (env0 (Array.toList #[(.pointer x1), (.int .i32 val2)]) (fnOf 111).ntmps) w0 (endK T0 (fnOf 111).results.toList K) := by kernel_rfl
theorem m_sync_atomic_Int32_Store_ok {x1 : Option Addr} {val2 : Int} {w0 : World} {K : Value → World → Prop} (h : m_sync_atomic_Int32_Store x1 val2 w0 K) : CallsV P 111 #[(.pointer x1), (.int .i32 val2)] w0 K :=
  func_sound W2 func_111 body_111 m_sync_atomic_Int32_Store_owed (Eq.mp (m_sync_atomic_Int32_Store_eq x1 val2 w0 K) h)


/-- (*sync/atomic.Uint64).Load -/
def m_sync_atomic_Uint64_Load (x1 : Option Addr) (w0 : World) (K : Value → World → Prop) : Prop :=
  Nn x1 fun x2 => ∃ (n3 : Int), World.cell? w0 (x2.add 0) = some (.int .u64 n3) ∧ K (.int .u64 n3) w0

theorem func_122 : P.funcs[122]? = some (fnOf 122) := by kernel_rfl
theorem body_122 : (fnOf 122).body = some (bodyOf 122) := by kernel_rfl
theorem m_sync_atomic_Uint64_Load_owed : Owed P O0 (bodyOf 122) 1 := owed_of (cast (by kernel_rfl) True.intro)
theorem m_sync_atomic_Uint64_Load_eq (x1 : Option Addr) (w0 : World) (K : Value → World → Prop) : m_sync_atomic_Uint64_Load x1 w0 K = evCode T0 P O0 (bodyOf 122) 1 (env0 (Array.toList #[(.pointer x1)]) (fnOf 122).ntmps) w0 (endK T0 (fnOf 122).results.toList K) := by kernel_rfl
theorem m_sync_atomic_Uint64_Load_ok {x1 : Option Addr} {w0 : World} {K : Value → World → Prop} (h : m_sync_atomic_Uint64_Load x1 w0 K) : CallsV P 122 #[(.pointer x1)] w0 K :=
  func_sound W2 func_122 body_122 m_sync_atomic_Uint64_Load_owed (Eq.mp (m_sync_atomic_Uint64_Load_eq x1 w0 K) h)


/-- (*sync/atomic.Uint64).Add -/
def m_sync_atomic_Uint64_Add (x1 : Option Addr) (delta2 : Int) (w0 : World) (K : Value → World → Prop) : Prop :=
  Nn x1 fun x3 => ∃ (n4 : Int), World.cell? w0 (x3.add 0) = some (.int .u64 n4) ∧ World.frozen? w0 (x3.add 0) = false ∧ K (.int .u64 (IntKind.wrap .u64 (n4 + delta2))) (World.setCell w0 (x3.add 0) (.int .u64 (IntKind.wrap .u64 (n4 + delta2))))

theorem func_171 : P.funcs[171]? = some (fnOf 171) := by kernel_rfl
theorem body_171 : (fnOf 171).body = some (bodyOf 171) := by kernel_rfl
theorem m_sync_atomic_Uint64_Add_owed : Owed P O0 (bodyOf 171) 1 := owed_of (cast (by kernel_rfl) True.intro)
theorem m_sync_atomic_Uint64_Add_eq (x1 : Option Addr) (delta2 : Int) (w0 : World) (K : Value → World → Prop) : m_sync_atomic_Uint64_Add x1 delta2 w0 K = evCode T0 P O0 (bodyOf 171) 1 (env0 (Array.toList #[(.pointer x1), (.int .u64 delta2)]) (fnOf 171).ntmps) w0 (endK T0 (fnOf 171).results.toList K) := by kernel_rfl
theorem m_sync_atomic_Uint64_Add_ok {x1 : Option Addr} {delta2 : Int} {w0 : World} {K : Value → World → Prop} (h : m_sync_atomic_Uint64_Add x1 delta2 w0 K) : CallsV P 171 #[(.pointer x1), (.int .u64 delta2)] w0 K :=
  func_sound W2 func_171 body_171 m_sync_atomic_Uint64_Add_owed (Eq.mp (m_sync_atomic_Uint64_Add_eq x1 delta2 w0 K) h)


/-- (*sync/atomic.Uint64).CompareAndSwap -/
def m_sync_atomic_Uint64_CompareAndSwap (x1 : Option Addr) (old2 : Int) (new3 : Int) (w0 : World) (K : Value → World → Prop) : Prop :=
  Nn x1 fun x4 => ∃ (n5 : Int), World.cell? w0 (x4.add 0) = some (.int .u64 n5) ∧ World.frozen? w0 (x4.add 0) = false ∧ (if n5 = old2 then K (.bool true) (World.setCell w0 (x4.add 0) (.int .u64 new3)) else K (.bool false) w0)

theorem func_220 : P.funcs[220]? = some (fnOf 220) := by kernel_rfl
theorem body_220 : (fnOf 220).body = some (bodyOf 220) := by kernel_rfl
theorem m_sync_atomic_Uint64_CompareAndSwap_owed : Owed P O0 (bodyOf 220) 1 := owed_of (cast (by kernel_rfl) True.intro)
theorem m_sync_atomic_Uint64_CompareAndSwap_eq (x1 : Option Addr) (old2 : Int) (new3 : Int) (w0 : World) (K : Value → World → Prop) : m_sync_atomic_Uint64_CompareAndSwap x1 old2 new3 w0 K = evCode T0 P O0 (bodyOf 220) 1 (env0 (Array.toList #[(.pointer x1), (.int .u64 old2), (.int .u64 new3)]) (fnOf 220).ntmps) w0 (endK T0 (fnOf 220).results.toList K) := by kernel_rfl
theorem m_sync_atomic_Uint64_CompareAndSwap_ok {x1 : Option Addr} {old2 : Int} {new3 : Int} {w0 : World} {K : Value → World → Prop} (h : m_sync_atomic_Uint64_CompareAndSwap x1 old2 new3 w0 K) : CallsV P 220 #[(.pointer x1), (.int .u64 old2), (.int .u64 new3)] w0 K :=
  func_sound W2 func_220 body_220 m_sync_atomic_Uint64_CompareAndSwap_owed (Eq.mp (m_sync_atomic_Uint64_CompareAndSwap_eq x1 old2 new3 w0 K) h)


end Go.M

/- What the atomic accesses, the lock and the boxes do. -/
set_option linter.all false
set_option linter.constructorNameAsVariable false
namespace Go.M
open Go Go.Eng Go.RowKit

variable {w : World} {K : Value → World → Prop}

/-! ### Atomic accesses -/
theorem load64_ok {a : Addr} {n : Int} (h : w.cell? a = some (.int .i64 n)) (hK : K (.int .i64 n) w) : CallsV P 61 #[.pointer (some a)] w K := by
  refine m_sync_atomic_Int64_Load_ok ?_
  exact nn_some (ld_int h hK)
theorem load32_ok {a : Addr} {n : Int} (h : w.cell? a = some (.int .i32 n)) (hK : K (.int .i32 n) w) : CallsV P 110 #[.pointer (some a)] w K := by
  refine m_sync_atomic_Int32_Load_ok ?_
  exact nn_some (ld_int h hK)
theorem loadU_ok {a : Addr} {n : Int} (h : w.cell? a = some (.int .u64 n)) (hK : K (.int .u64 n) w) : CallsV P 122 #[.pointer (some a)] w K := by
  refine m_sync_atomic_Uint64_Load_ok ?_
  exact nn_some (ld_int h hK)
theorem store32_ok {b o : Nat} {u : Value} {n : Int} (h : w.cell? ⟨b, o, none⟩ = some u) (hf : w.frozen? ⟨b, o, none⟩ = false) (hK : K (.tuple #[]) (w.setCell ⟨b, o, none⟩ (.int .i32 n))) : CallsV P 111 #[.pointer (some ⟨b, o, none⟩), .int .i32 n] w K := by
  refine m_sync_atomic_Int32_Store_ok ?_
  exact nn_some (St_at h hf hK)
theorem storeU_ok {b o : Nat} {u : Value} {n : Int} (h : w.cell? ⟨b, o, none⟩ = some u) (hf : w.frozen? ⟨b, o, none⟩ = false) (hK : K (.tuple #[]) (w.setCell ⟨b, o, none⟩ (.int .u64 n))) : CallsV P 106 #[.pointer (some ⟨b, o, none⟩), .int .u64 n] w K := by
  refine m_sync_atomic_Uint64_Store_ok ?_
  exact nn_some (St_at h hf hK)
theorem addU_ok {b o : Nat} {n d : Int} (h : w.cell? ⟨b, o, none⟩ = some (.int .u64 n)) (hf : w.frozen? ⟨b, o, none⟩ = false) (hK : K (.int .u64 (IntKind.wrap .u64 (n + d))) (w.setCell ⟨b, o, none⟩ (.int .u64 (IntKind.wrap .u64 (n + d))))) : CallsV P 171 #[.pointer (some ⟨b, o, none⟩), .int .u64 d] w K := by
  refine m_sync_atomic_Uint64_Add_ok ?_
  exact nn_some ⟨n, h, hf, hK⟩
theorem casU_ok {b o : Nat} {n x y : Int} (h : w.cell? ⟨b, o, none⟩ = some (.int .u64 n)) (hf : w.frozen? ⟨b, o, none⟩ = false) (h1 : n = x → K (.bool true) (w.setCell ⟨b, o, none⟩ (.int .u64 y))) (h2 : n ≠ x → K (.bool false) w) :
    CallsV P 220 #[.pointer (some ⟨b, o, none⟩), .int .u64 x, .int .u64 y] w K := by
  refine m_sync_atomic_Uint64_CompareAndSwap_ok ?_
  refine nn_some ⟨n, h, hf, ?_⟩
  by_cases e : n = x
  · exact if_yes e (h1 e)
  · exact if_no e (h2 e)
theorem cas64_ok {b o : Nat} {n x y : Int} (h : w.cell? ⟨b, o, none⟩ = some (.int .i64 n)) (hf : w.frozen? ⟨b, o, none⟩ = false) (h1 : n = x → K (.bool true) (w.setCell ⟨b, o, none⟩ (.int .i64 y))) (h2 : n ≠ x → K (.bool false) w) :
    CallsV P 62 #[.pointer (some ⟨b, o, none⟩), .int .i64 x, .int .i64 y] w K := by
  refine m_sync_atomic_Int64_CompareAndSwap_ok ?_
  refine nn_some ⟨n, h, hf, ?_⟩
  by_cases e : n = x
  · exact if_yes e (h1 e)
  · exact if_no e (h2 e)

/-! ### The lock -/
theorem newLock_ok (hK : ∀ w', Only [] w w' → w'.heap.size = w.heap.size + 1 → LockAt w' w.heap.size ⟨0⟩ → K (.pointer (some ⟨w.heap.size, 0, none⟩)) w') : CallsV P 59 #[] w K := by
  refine m_lock_NewLock_ok ?_
  refine al_intro (hK _ (Only.alloc _ _) (by rw [World.size_alloc]) ⟨by simp [cell_new], fun i => by simp [frozen_new], by rw [World.size_alloc]; omega⟩)

theorem try_ok {lb : Nat} {s : LockM} (hs : LockAt w lb s) {id : Nat} (hid : id < 1000000)
    (h1 : s.owner = 0 → ∀ w', Only [lb] w w' → LockAt w' lb ⟨id + 1⟩ → K (.bool true) w') (h2 : s.owner ≠ 0 → K (.bool false) w) : CallsV P 70 #[.pointer (some ⟨lb, 0, none⟩), .int .i64 (id : Int)] w K := by
  refine m_lock_Lock_Try_ok ?_
  refine if_yes (by simp) (if_yes (by simp) (nn_some ?_))
  rw [IntWalk.i64_in _ (by omega)]
  exact cas64_ok hs.h_owner (hs.z_pb _) (fun e => ⟨_, rfl, h1 e _ ((Only.refl _ _).st (.inl (by simp)) hs.h_owner) (hs.set_owner _)⟩) (fun e => ⟨_, rfl, h2 e⟩)

theorem free_lock_ok {lb : Nat} {s : LockM} (hs : LockAt w lb s) {id : Nat} (hid : id < 1000000)
    (h1 : s.owner = id + 1 → ∀ w', Only [lb] w w' → LockAt w' lb ⟨0⟩ → K (.bool true) w') (h2 : s.owner ≠ id + 1 → K (.bool false) w) : CallsV P 75 #[.pointer (some ⟨lb, 0, none⟩), .int .i64 (id : Int)] w K := by
  refine m_lock_Lock_Free_ok ?_
  refine if_yes (by simp) (if_yes (by simp) (nn_some ?_))
  rw [IntWalk.i64_in _ (by omega)]
  exact cas64_ok hs.h_owner (hs.z_pb _) (fun e => ⟨_, rfl, h1 e _ ((Only.refl _ _).st (.inl (by simp)) hs.h_owner) (hs.set_owner _)⟩) (fun e => ⟨_, rfl, h2 e⟩)

/-! ### The boxes -/
structure Opn where
  kind : Int
  tier : Int
  cohort : Int
  num : Int
  deriving DecidableEq
structure Rs where
  answer : Int
  ticket : Int
  tier : Int
  cohort : Int
  sojourn : Int
  deriving DecidableEq
def Opn.v (o : Opn) : Value := .agg #[.int .u8 o.kind, .int .i64 o.tier, .int .i64 o.cohort, .int .i64 o.num]
def Rs.v (r : Rs) : Value := .agg #[.int .u8 r.answer, .int .u64 r.ticket, .int .i64 r.tier, .int .i64 r.cohort, .int .i64 r.sojourn]

def BoxM.new : BoxM := ⟨0, 0, 0, 0, 0, 0, 0, 0, 0, 0⟩
theorem newBox_ok (hK : ∀ w', Only [] w w' → w'.heap.size = w.heap.size + 1 → BoxAt w' w.heap.size BoxM.new → K (.pointer (some ⟨w.heap.size, 0, none⟩)) w') : CallsV P 60 #[] w K := by
  refine m_lock_NewBox_ok ?_
  refine al_intro (hK _ (Only.alloc _ _) (by rw [World.size_alloc]) ?_)
  constructor <;> (try intro i) <;> simp [cell_new, frozen_new, BoxM.new, World.size_alloc]

theorem state_ok {b : Nat} {s : BoxM} (hs : BoxAt w b s) (hr : 0 ≤ s.state ∧ s.state ≤ 2) (hK : K (.int .i64 s.state) w) : CallsV P 173 #[.pointer (some ⟨b, 0, none⟩)] w K := by
  refine m_lock_Box_State_ok ?_
  refine if_no (by simp) (nn_some (load32_ok hs.h_state ⟨_, rfl, ?_⟩))
  rw [IntWalk.i64_in _ (by omega)]
  exact hK

def BoxM.post (s : BoxM) (o : Opn) : BoxM := { s with kind := o.kind, tier := o.tier, cohort := o.cohort, num := o.num, state := 1 }

theorem post_ok {b : Nat} {s : BoxM} (hs : BoxAt w b s) (h0 : s.state = 0) {o : Opn} (hK : ∀ w', Only [b] w w' → BoxAt w' b (s.post o) → K (.bool true) w') : CallsV P 66 #[.pointer (some ⟨b, 0, none⟩), o.v] w K := by
  refine m_lock_Box_Post_ok ?_
  unfold m_lock_Box_Post
  refine al_intro (if_no (by simp) (nn_some ?_))
  have hb := Nat.ne_of_lt hs.lt_pb
  have o1 : Only [b] w (w.alloc (.cells #[(.int .u8 o.kind), (.int .i64 o.tier), (.int .i64 o.cohort), (.int .i64 o.num)] 32)) := Only.alloc _ _
  have s1 := hs.only (S := []) (Only.alloc w (.cells #[(.int .u8 o.kind), (.int .i64 o.tier), (.int .i64 o.cohort), (.int .i64 o.num)] 32)) (by simp)
  refine load32_ok s1.h_state ⟨_, rfl, if_no (by simp [h0]) ?_⟩
  unfold m_lock_Box_Post_c3
  simp only [addr_add, Nat.add_zero, Nat.zero_add]
  refine ld_int (n := o.kind) (by simp [cell_new]) (ld_int (n := o.tier) (by simp [cell_new]) (ld_int (n := o.cohort) (by simp [cell_new]) (ld_int (n := o.num) (by simp [cell_new]) (nn_some ?_))))
  simp only [addr_add, Nat.add_zero, Nat.zero_add]
  have s2 := s1.set_kind o.kind
  have o2 := o1.st (v := .int .u8 o.kind) (.inl (by simp)) s1.h_kind
  refine St_at s1.h_kind (s1.z_pb _) ?_
  have s3 := s2.set_tier o.tier
  have o3 := o2.st (v := .int .i64 o.tier) (.inl (by simp)) s2.h_tier
  refine St_at s2.h_tier (s2.z_pb _) ?_
  have s4 := s3.set_cohort o.cohort
  have o4 := o3.st (v := .int .i64 o.cohort) (.inl (by simp)) s3.h_cohort
  refine St_at s3.h_cohort (s3.z_pb _) ?_
  have s5 := s4.set_num o.num
  have o5 := o4.st (v := .int .i64 o.num) (.inl (by simp)) s4.h_num
  refine St_at s4.h_num (s4.z_pb _) (nn_some ?_)
  have s6 := s5.set_state 1
  have o6 := o5.st (v := .int .i32 1) (.inl (by simp)) s5.h_state
  exact store32_ok s5.h_state (s5.z_pb _) ⟨rfl, hK _ o6 s6⟩

def BoxM.finish (s : BoxM) (r : Rs) : BoxM := { s with answer := r.answer, ticket := r.ticket, rtier := r.tier, rcohort := r.cohort, sojourn := r.sojourn, state := 2 }

theorem finish_ok {b : Nat} {s : BoxM} (hs : BoxAt w b s) (h0 : s.state = 1) {r : Rs} (hK : ∀ w', Only [b] w w' → BoxAt w' b (s.finish r) → K (.bool true) w') : CallsV P 117 #[.pointer (some ⟨b, 0, none⟩), r.v] w K := by
  refine m_lock_Box_Finish_ok ?_
  unfold m_lock_Box_Finish
  refine al_intro (if_no (by simp) (nn_some ?_))
  have hb := Nat.ne_of_lt hs.lt_pb
  have o1 : Only [b] w (w.alloc (.cells #[(.int .u8 r.answer), (.int .u64 r.ticket), (.int .i64 r.tier), (.int .i64 r.cohort), (.int .i64 r.sojourn)] 42)) := Only.alloc _ _
  have s1 := hs.only (S := []) (Only.alloc w (.cells #[(.int .u8 r.answer), (.int .u64 r.ticket), (.int .i64 r.tier), (.int .i64 r.cohort), (.int .i64 r.sojourn)] 42)) (by simp)
  refine load32_ok s1.h_state ⟨_, rfl, if_no (by simp [h0]) ?_⟩
  unfold m_lock_Box_Finish_c3
  simp only [addr_add, Nat.add_zero, Nat.zero_add]
  refine ld_int (n := r.answer) (by simp [cell_new]) (ld_int (n := r.ticket) (by simp [cell_new]) (ld_int (n := r.tier) (by simp [cell_new]) (ld_int (n := r.cohort) (by simp [cell_new]) (ld_int (n := r.sojourn) (by simp [cell_new]) (nn_some ?_)))))
  simp only [addr_add, Nat.add_zero, Nat.zero_add]
  have s2 := s1.set_answer r.answer
  have o2 := o1.st (v := .int .u8 r.answer) (.inl (by simp)) s1.h_answer
  refine St_at s1.h_answer (s1.z_pb _) ?_
  have s3 := s2.set_ticket r.ticket
  have o3 := o2.st (v := .int .u64 r.ticket) (.inl (by simp)) s2.h_ticket
  refine St_at s2.h_ticket (s2.z_pb _) ?_
  have s4 := s3.set_rtier r.tier
  have o4 := o3.st (v := .int .i64 r.tier) (.inl (by simp)) s3.h_rtier
  refine St_at s3.h_rtier (s3.z_pb _) ?_
  have s5 := s4.set_rcohort r.cohort
  have o5 := o4.st (v := .int .i64 r.cohort) (.inl (by simp)) s4.h_rcohort
  refine St_at s4.h_rcohort (s4.z_pb _) ?_
  have s6 := s5.set_sojourn r.sojourn
  have o6 := o5.st (v := .int .i64 r.sojourn) (.inl (by simp)) s5.h_sojourn
  refine St_at s5.h_sojourn (s5.z_pb _) (nn_some ?_)
  have s7 := s6.set_state 2
  have o7 := o6.st (v := .int .i32 2) (.inl (by simp)) s6.h_state
  exact store32_ok s6.h_state (s6.z_pb _) ⟨rfl, hK _ o7 s7⟩

end Go.M
