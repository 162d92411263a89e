/- Proofs about the front of the overload controller, part 12: R0 C3 C8. -/
import Derived.Test.YtdodcfbmpmapmaaGreatW03
import Derived.Test.YtdodcfbmpmapmaaGreatW05
import Derived.IntWalk
set_option linter.all false
set_option linter.constructorNameAsVariable false
set_option linter.unusedVariables false
namespace Go.M
open Go Go.Eng Go.RowKit
set_option linter.all false
set_option linter.constructorNameAsVariable false
set_option maxRecDepth 100000
attribute [local irreducible] evCode owes Owed

/-- (*overfall/deque.Rows).there -/
def m_deque_Rows_there (w1 : Option Addr) (row2 : Int) (w0 : World) (K : Value → World → Prop) : Prop :=
  (if (!Option.isNone w1) = true then (if (decide (0 ≤ row2)) = true then Nn w1 fun w3 => ∃ (sA4 : Option Addr) (sL5 : Nat) (sC6 : Nat), World.cell? w0 (w3.add 0) = some (.slice sA4 sL5 sC6) ∧ K (.bool (decide (row2 < ((sL5 : Nat) : Int)))) w0 else K (.bool false) w0) else K (.bool false) w0)

theorem func_225 : P.funcs[225]? = some (fnOf 225) := by kernel_rfl
theorem body_225 : (fnOf 225).body = some (bodyOf 225) := by kernel_rfl
theorem m_deque_Rows_there_owed : Owed P O0 (bodyOf 225) 1 := owed_of (cast (by kernel_rfl) True.intro)
theorem m_deque_Rows_there_eq (w1 : Option Addr) (row2 : Int) (w0 : World) (K : Value → World → Prop) : m_deque_Rows_there w1 row2 w0 K = evCode T0 P O0 (bodyOf 225) 1 (env0 (Array.toList #[(.pointer w1), (.int .i64 row2)]) (fnOf 225).ntmps) w0 (endK T0 (fnOf 225).results.toList K) := by kernel_rfl
theorem m_deque_Rows_there_ok {w1 : Option Addr} {row2 : Int} {w0 : World} {K : Value → World → Prop} (h : m_deque_Rows_there w1 row2 w0 K) : CallsV P 225 #[(.pointer w1), (.int .i64 row2)] w0 K :=
  func_sound W2 func_225 body_225 m_deque_Rows_there_owed (Eq.mp (m_deque_Rows_there_eq w1 row2 w0 K) h)


/-- (*overfall/deque.Rows).member -/
def m_deque_Rows_member (w1 : Option Addr) (i2 : Int) (w0 : World) (K : Value → World → Prop) : Prop :=
  (if (decide (0 ≤ i2)) = true then Nn w1 fun w3 => ∃ (sA4 : Option Addr) (sL5 : Nat) (sC6 : Nat), World.cell? w0 (w3.add 1) = some (.slice sA4 sL5 sC6) ∧ K (.bool (decide (i2 < ((sL5 : Nat) : Int)))) w0 else K (.bool false) w0)

theorem func_226 : P.funcs[226]? = some (fnOf 226) := by kernel_rfl
theorem body_226 : (fnOf 226).body = some (bodyOf 226) := by kernel_rfl
theorem m_deque_Rows_member_owed : Owed P O0 (bodyOf 226) 1 := owed_of (cast (by kernel_rfl) True.intro)
theorem m_deque_Rows_member_eq (w1 : Option Addr) (i2 : Int) (w0 : World) (K : Value → World → Prop) : m_deque_Rows_member w1 i2 w0 K = evCode T0 P O0 (bodyOf 226) 1 (env0 (Array.toList #[(.pointer w1), (.int .i64 i2)]) (fnOf 226).ntmps) w0 (endK T0 (fnOf 226).results.toList K) := by kernel_rfl
theorem m_deque_Rows_member_ok {w1 : Option Addr} {i2 : Int} {w0 : World} {K : Value → World → Prop} (h : m_deque_Rows_member w1 i2 w0 K) : CallsV P 226 #[(.pointer w1), (.int .i64 i2)] w0 K :=
  func_sound W2 func_226 body_226 m_deque_Rows_member_owed (Eq.mp (m_deque_Rows_member_eq w1 i2 w0 K) h)


/-- (*overfall/deque.Rows).Len -/
def m_deque_Rows_Len (w1 : Option Addr) (row2 : Int) (w0 : World) (K : Value → World → Prop) : Prop :=
  CallsV P 225 #[(.pointer w1), (.int .i64 row2)] w0 fun v3 w4 => ∃ (b5 : Bool), v3 = (.bool b5) ∧ (if (!b5) = true then K (.int .i64 0) w4 else Nn w1 fun w6 => ∃ (sA7 : Option Addr) (sL8 : Nat) (sC9 : Nat), World.cell? w4 (w6.add 0) = some (.slice sA7 sL8 sC9) ∧ Ix sA7 sL8 row2 fun a10 => ∃ (n11 : Int), World.cell? w4 ((a10.add (Int.toNat row2 * 3)).add 2) = some (.int .i64 n11) ∧ K (.int .i64 n11) w4)

theorem func_184 : P.funcs[184]? = some (fnOf 184) := by kernel_rfl
theorem body_184 : (fnOf 184).body = some (bodyOf 184) := by kernel_rfl
theorem m_deque_Rows_Len_owed : Owed P O0 (bodyOf 184) 1 := owed_of (cast (by kernel_rfl) True.intro)
theorem m_deque_Rows_Len_eq (w1 : Option Addr) (row2 : Int) (w0 : World) (K : Value → World → Prop) : m_deque_Rows_Len w1 row2 w0 K = evCode T0 P O0 (bodyOf 184) 1 (env0 (Array.toList #[(.pointer w1), (.int .i64 row2)]) (fnOf 184).ntmps) w0 (endK T0 (fnOf 184).results.toList K) := by kernel_rfl
theorem m_deque_Rows_Len_ok {w1 : Option Addr} {row2 : Int} {w0 : World} {K : Value → World → Prop} (h : m_deque_Rows_Len w1 row2 w0 K) : CallsV P 184 #[(.pointer w1), (.int .i64 row2)] w0 K :=
  func_sound W2 func_184 body_184 m_deque_Rows_Len_owed (Eq.mp (m_deque_Rows_Len_eq w1 row2 w0 K) h)


def m_deque_Rows_end_c3 (vs : List Value) (w0 : World) (out : Nat × List Value → World → Prop) : Prop :=
  match vs with
  | [.pointer w13, .int .i64 row14, .bool back15] => (if back15 = true then Nn w13 fun w16 => ∃ (sA17 : Option Addr) (sL18 : Nat) (sC19 : Nat), World.cell? w0 (w16.add 0) = some (.slice sA17 sL18 sC19) ∧ Ix sA17 sL18 row14 fun a20 => ∃ (n21 : Int), World.cell? w0 ((a20.add (Int.toNat row14 * 3)).add 1) = some (.int .i64 n21) ∧ out (0, [(.int .i64 n21), (.bool true)]) w0 else Nn w13 fun w22 => ∃ (sA23 : Option Addr) (sL24 : Nat) (sC25 : Nat), World.cell? w0 (w22.add 0) = some (.slice sA23 sL24 sC25) ∧ Ix sA23 sL24 row14 fun a26 => ∃ (n27 : Int), World.cell? w0 ((a26.add (Int.toNat row14 * 3)).add 0) = some (.int .i64 n27) ∧ out (0, [(.int .i64 n27), (.bool true)]) w0)
  | _ => False

def m_deque_Rows_end_c3_o (y : Nat × List Value) (k0 : Int → Bool → Prop) : Prop :=
  match y with
  | (0, [.int .i64 n28, .bool b29]) => k0 n28 b29
  | _ => False

/-- (*overfall/deque.Rows).end -/
def m_deque_Rows_end (w1 : Option Addr) (row2 : Int) (back3 : Bool) (w0 : World) (K : Value → World → Prop) : Prop :=
  CallsV P 225 #[(.pointer w1), (.int .i64 row2)] w0 fun v4 w5 => ∃ (b6 : Bool), v4 = (.bool b6) ∧ (if (!b6) = true then K (.tuple #[(.int .i64 0), (.bool false)]) w5 else Nn w1 fun w7 => ∃ (sA8 : Option Addr) (sL9 : Nat) (sC10 : Nat), World.cell? w5 (w7.add 0) = some (.slice sA8 sL9 sC10) ∧ Ix sA8 sL9 row2 fun a11 => ∃ (n12 : Int), World.cell? w5 ((a11.add (Int.toNat row2 * 3)).add 2) = some (.int .i64 n12) ∧ (if (decide (n12 = 0)) = true then K (.tuple #[(.int .i64 0), (.bool false)]) w5 else m_deque_Rows_end_c3 [(.pointer w1), (.int .i64 row2), (.bool back3)] w5 fun y31 w30 => m_deque_Rows_end_c3_o y31 (fun n32 b33 => K (.tuple #[(.int .i64 n32), (.bool b33)]) w30)))

theorem func_201 : P.funcs[201]? = some (fnOf 201) := by kernel_rfl
theorem body_201 : (fnOf 201).body = some (bodyOf 201) := by kernel_rfl
def m_deque_Rows_end_c3_p (y : Nat × List Value) (k : Nat × List Value → Prop) : Prop := m_deque_Rows_end_c3_o y (fun n28 b29 => k (0, [(.int .i64 n28), (.bool b29)]))
theorem m_deque_Rows_end_c3_pok : ∀ y k, m_deque_Rows_end_c3_p y k → k y := by
  intro y k h
  unfold m_deque_Rows_end_c3_p m_deque_Rows_end_c3_o at h
  split at h <;> first | exact h | exact h.elim
def m_deque_Rows_end_c3_E : Env → World → Kont → Prop := (fun e w k => takeK 40 [0, 1, 2] e fun vs => m_deque_Rows_end_c3 vs w fun y w => m_deque_Rows_end_c3_p y fun y => outK 40 [(.ret, [6, 7])] k y w)
def O_m_deque_Rows_end : Orac := { loop := fun p => (fun _ _ _ => False), cut := fun p => cond (Nat.beq p 3) (some m_deque_Rows_end_c3_E) (none) }
theorem m_deque_Rows_end_c3_owed : Owed P O_m_deque_Rows_end (codeAt (bodyOf 201) [true, true]) 7 := owed_of (cast (by kernel_rfl) True.intro)
theorem m_deque_Rows_end_c3_ok : Sound P (codeAt (bodyOf 201) [true, true]) m_deque_Rows_end_c3_E := by
  refine piece_sound (evCode_sound W2 O_m_deque_Rows_end (codeAt (bodyOf 201) [true, true]) 7 m_deque_Rows_end_c3_owed) 40 [0, 1, 2] [(.ret, [6, 7])] m_deque_Rows_end_c3 ?_ m_deque_Rows_end_c3_p m_deque_Rows_end_c3_pok
  intro vs w out h
  unfold m_deque_Rows_end_c3 at h
  split at h
  · exact cast (by kernel_rfl) h
  · exact h.elim
theorem m_deque_Rows_end_owed : Owed P O_m_deque_Rows_end (bodyOf 201) 1 := owed_of (cast (by kernel_rfl) m_deque_Rows_end_c3_ok)
theorem m_deque_Rows_end_eq (w1 : Option Addr) (row2 : Int) (back3 : Bool) (w0 : World) (K : Value → World → Prop) : m_deque_Rows_end w1 row2 back3 w0 K = evCode T0 P O_m_deque_Rows_end (bodyOf 201) 1 (env0 (Array.toList #[(.pointer w1), (.int .i64 row2), (.bool back3)]) (fnOf 201).ntmps) w0 (endK T0 (fnOf 201).results.toList K) := by kernel_rfl
theorem m_deque_Rows_end_ok {w1 : Option Addr} {row2 : Int} {back3 : Bool} {w0 : World} {K : Value → World → Prop} (h : m_deque_Rows_end w1 row2 back3 w0 K) : CallsV P 201 #[(.pointer w1), (.int .i64 row2), (.bool back3)] w0 K :=
  func_sound W2 func_201 body_201 m_deque_Rows_end_owed (Eq.mp (m_deque_Rows_end_eq w1 row2 back3 w0 K) h)


/-- (*overfall/deque.Rows).Front -/
def m_deque_Rows_Front (w1 : Option Addr) (row2 : Int) (w0 : World) (K : Value → World → Prop) : Prop :=
  CallsV P 201 #[(.pointer w1), (.int .i64 row2), (.bool false)] w0 fun v3 w4 => ∃ (n5 : Int) (b6 : Bool), v3 = (.tuple #[(.int .i64 n5), (.bool b6)]) ∧ K (.tuple #[(.int .i64 n5), (.bool b6)]) w4

theorem func_185 : P.funcs[185]? = some (fnOf 185) := by kernel_rfl
theorem body_185 : (fnOf 185).body = some (bodyOf 185) := by kernel_rfl
theorem m_deque_Rows_Front_owed : Owed P O0 (bodyOf 185) 1 := owed_of (cast (by kernel_rfl) True.intro)
theorem m_deque_Rows_Front_eq (w1 : Option Addr) (row2 : Int) (w0 : World) (K : Value → World → Prop) : m_deque_Rows_Front w1 row2 w0 K = evCode T0 P O0 (bodyOf 185) 1 (env0 (Array.toList #[(.pointer w1), (.int .i64 row2)]) (fnOf 185).ntmps) w0 (endK T0 (fnOf 185).results.toList K) := by kernel_rfl
theorem m_deque_Rows_Front_ok {w1 : Option Addr} {row2 : Int} {w0 : World} {K : Value → World → Prop} (h : m_deque_Rows_Front w1 row2 w0 K) : CallsV P 185 #[(.pointer w1), (.int .i64 row2)] w0 K :=
  func_sound W2 func_185 body_185 m_deque_Rows_Front_owed (Eq.mp (m_deque_Rows_Front_eq w1 row2 w0 K) h)


/-- (*overfall/deque.Rows).Back -/
def m_deque_Rows_Back (w1 : Option Addr) (row2 : Int) (w0 : World) (K : Value → World → Prop) : Prop :=
  CallsV P 201 #[(.pointer w1), (.int .i64 row2), (.bool true)] w0 fun v3 w4 => ∃ (n5 : Int) (b6 : Bool), v3 = (.tuple #[(.int .i64 n5), (.bool b6)]) ∧ K (.tuple #[(.int .i64 n5), (.bool b6)]) w4

theorem func_177 : P.funcs[177]? = some (fnOf 177) := by kernel_rfl
theorem body_177 : (fnOf 177).body = some (bodyOf 177) := by kernel_rfl
theorem m_deque_Rows_Back_owed : Owed P O0 (bodyOf 177) 1 := owed_of (cast (by kernel_rfl) True.intro)
theorem m_deque_Rows_Back_eq (w1 : Option Addr) (row2 : Int) (w0 : World) (K : Value → World → Prop) : m_deque_Rows_Back w1 row2 w0 K = evCode T0 P O0 (bodyOf 177) 1 (env0 (Array.toList #[(.pointer w1), (.int .i64 row2)]) (fnOf 177).ntmps) w0 (endK T0 (fnOf 177).results.toList K) := by kernel_rfl
theorem m_deque_Rows_Back_ok {w1 : Option Addr} {row2 : Int} {w0 : World} {K : Value → World → Prop} (h : m_deque_Rows_Back w1 row2 w0 K) : CallsV P 177 #[(.pointer w1), (.int .i64 row2)] w0 K :=
  func_sound W2 func_177 body_177 m_deque_Rows_Back_owed (Eq.mp (m_deque_Rows_Back_eq w1 row2 w0 K) h)


def m_deque_Rows_Push_c51 (vs : List Value) (w0 : World) (out : Nat × List Value → World → Prop) : Prop :=
  match vs with
  | [.pointer w7, .int .i64 row8, .int .i64 i9, .bool b10] => (if b10 = true then out (1, [(.int .i64 1)]) w0 else Nn w7 fun w11 => ∃ (sA12 : Option Addr) (sL13 : Nat) (sC14 : Nat), World.cell? w0 (w11.add 1) = some (.slice sA12 sL13 sC14) ∧ Ix sA12 sL13 i9 fun a15 => ∃ (n16 : Int), World.cell? w0 ((a15.add (Int.toNat i9 * 3)).add 0) = some (.int .i64 n16) ∧ (if (!decide (n16 = (-1))) = true then out (1, [(.int .i64 10)]) w0 else out (0, [(.pointer w7), (.int .i64 row8), (.int .i64 i9)]) w0))
  | _ => False

def m_deque_Rows_Push_c51_o (y : Nat × List Value) (k0 : Option Addr → Int → Int → Prop) (k1 : Int → Prop) : Prop :=
  match y with
  | (0, [.pointer w17, .int .i64 row18, .int .i64 i19]) => k0 w17 row18 i19
  | (1, [.int .i64 n20]) => k1 n20
  | _ => False

def m_deque_Rows_Push_c31 (vs : List Value) (w0 : World) (out : Nat × List Value → World → Prop) : Prop :=
  match vs with
  | [.int .i64 i45, .pointer (some r46)] => St ((r46.add 1).add 0) (.int .i64 i45) w0 fun w47 => ∃ (n48 : Int), World.cell? w47 (r46.add 2) = some (.int .i64 n48) ∧ St ((r46.add 2).add 0) (.int .i64 (IntKind.wrap .i64 (n48 + 1))) w47 fun w49 => out (0, [(.int .i64 0)]) w49
  | _ => False

def m_deque_Rows_Push_c31_o (y : Nat × List Value) (k0 : Int → Prop) : Prop :=
  match y with
  | (0, [.int .i64 n50]) => k0 n50
  | _ => False

def m_deque_Rows_Push_c3 (vs : List Value) (w0 : World) (out : Nat × List Value → World → Prop) : Prop :=
  match vs with
  | [.pointer w26, .int .i64 row27, .int .i64 i28] => Nn w26 fun w29 => ∃ (sA30 : Option Addr) (sL31 : Nat) (sC32 : Nat), World.cell? w0 (w29.add 0) = some (.slice sA30 sL31 sC32) ∧ Ix sA30 sL31 row27 fun a33 => Nn w26 fun w34 => ∃ (sA35 : Option Addr) (sL36 : Nat) (sC37 : Nat), World.cell? (World.drew w0) (w34.add 1) = some (.slice sA35 sL36 sC37) ∧ ∃ (n38 : Int), World.cell? (World.drew w0) ((a33.add (Int.toNat row27 * 3)).add 1) = some (.int .i64 n38) ∧ Ix sA35 sL36 i28 fun a39 => St ((a39.add (Int.toNat i28 * 3)).add 0) (.int .i64 row27) (World.drew w0) fun w40 => St ((a39.add (Int.toNat i28 * 3)).add 1) (.int .i64 n38) w40 fun w41 => St ((a39.add (Int.toNat i28 * 3)).add 2) (.int .i64 (-1)) w41 fun w42 => ∃ (n43 : Int), World.cell? w42 ((a33.add (Int.toNat row27 * 3)).add 1) = some (.int .i64 n43) ∧ (if (decide (n43 = (-1))) = true then St (((a33.add (Int.toNat row27 * 3)).add 0).add 0) (.int .i64 i28) w42 fun w44 => m_deque_Rows_Push_c31 [(.int .i64 i28), (.pointer (some (a33.add (Int.toNat row27 * 3))))] w44 fun y52 w51 => m_deque_Rows_Push_c31_o y52 (fun n53 => out (0, [(.int .i64 n53)]) w51) else Nn w26 fun w54 => ∃ (sA55 : Option Addr) (sL56 : Nat) (sC57 : Nat), World.cell? (World.drew w42) (w54.add 1) = some (.slice sA55 sL56 sC57) ∧ ∃ (n58 : Int), World.cell? (World.drew w42) ((a33.add (Int.toNat row27 * 3)).add 1) = some (.int .i64 n58) ∧ Ix sA55 sL56 n58 fun a59 => St (((a59.add (Int.toNat n58 * 3)).add 2).add 0) (.int .i64 i28) (World.drew w42) fun w60 => m_deque_Rows_Push_c31 [(.int .i64 i28), (.pointer (some (a33.add (Int.toNat row27 * 3))))] w60 fun y62 w61 => m_deque_Rows_Push_c31_o y62 (fun n63 => out (0, [(.int .i64 n63)]) w61))
  | _ => False

def m_deque_Rows_Push_c3_o (y : Nat × List Value) (k0 : Int → Prop) : Prop :=
  match y with
  | (0, [.int .i64 n64]) => k0 n64
  | _ => False

/-- (*overfall/deque.Rows).Push -/
def m_deque_Rows_Push (w1 : Option Addr) (row2 : Int) (i3 : Int) (w0 : World) (K : Value → World → Prop) : Prop :=
  (if (Option.isNone w1) = true then K (.int .i64 3) w0 else CallsV P 225 #[(.pointer w1), (.int .i64 row2)] w0 fun v4 w5 => ∃ (b6 : Bool), v4 = (.bool b6) ∧ (if (!b6) = true then m_deque_Rows_Push_c51 [(.pointer w1), (.int .i64 row2), (.int .i64 i3), (.bool true)] w5 fun y22 w21 => m_deque_Rows_Push_c51_o y22 (fun w23 row24 i25 => m_deque_Rows_Push_c3 [(.pointer w23), (.int .i64 row24), (.int .i64 i25)] w21 fun y66 w65 => m_deque_Rows_Push_c3_o y66 (fun n67 => K (.int .i64 n67) w65)) (fun n68 => K (.int .i64 n68) w21) else CallsV P 226 #[(.pointer w1), (.int .i64 i3)] w5 fun v69 w70 => ∃ (b71 : Bool), v69 = (.bool b71) ∧ m_deque_Rows_Push_c51 [(.pointer w1), (.int .i64 row2), (.int .i64 i3), (.bool (!b71))] w70 fun y73 w72 => m_deque_Rows_Push_c51_o y73 (fun w74 row75 i76 => m_deque_Rows_Push_c3 [(.pointer w74), (.int .i64 row75), (.int .i64 i76)] w72 fun y78 w77 => m_deque_Rows_Push_c3_o y78 (fun n79 => K (.int .i64 n79) w77)) (fun n80 => K (.int .i64 n80) w72)))

theorem func_182 : P.funcs[182]? = some (fnOf 182) := by kernel_rfl
theorem body_182 : (fnOf 182).body = some (bodyOf 182) := by kernel_rfl
def m_deque_Rows_Push_c3_p (y : Nat × List Value) (k : Nat × List Value → Prop) : Prop := m_deque_Rows_Push_c3_o y (fun n64 => k (0, [(.int .i64 n64)]))
theorem m_deque_Rows_Push_c3_pok : ∀ y k, m_deque_Rows_Push_c3_p y k → k y := by
  intro y k h
  unfold m_deque_Rows_Push_c3_p m_deque_Rows_Push_c3_o at h
  split at h <;> first | exact h | exact h.elim
def m_deque_Rows_Push_c31_p (y : Nat × List Value) (k : Nat × List Value → Prop) : Prop := m_deque_Rows_Push_c31_o y (fun n50 => k (0, [(.int .i64 n50)]))
theorem m_deque_Rows_Push_c31_pok : ∀ y k, m_deque_Rows_Push_c31_p y k → k y := by
  intro y k h
  unfold m_deque_Rows_Push_c31_p m_deque_Rows_Push_c31_o at h
  split at h <;> first | exact h | exact h.elim
def m_deque_Rows_Push_c51_p (y : Nat × List Value) (k : Nat × List Value → Prop) : Prop := m_deque_Rows_Push_c51_o y (fun w17 row18 i19 => k (0, [(.pointer w17), (.int .i64 row18), (.int .i64 i19)])) (fun n20 => k (1, [(.int .i64 n20)]))
theorem m_deque_Rows_Push_c51_pok : ∀ y k, m_deque_Rows_Push_c51_p y k → k y := by
  intro y k h
  unfold m_deque_Rows_Push_c51_p m_deque_Rows_Push_c51_o at h
  split at h <;> first | exact h | exact h.elim
def m_deque_Rows_Push_c3_E : Env → World → Kont → Prop := (fun e w k => takeK 81 [0, 1, 2] e fun vs => m_deque_Rows_Push_c3 vs w fun y w => m_deque_Rows_Push_c3_p y fun y => outK 81 [(.ret, [6])] k y w)
def m_deque_Rows_Push_c31_E : Env → World → Kont → Prop := (fun e w k => takeK 81 [2, 7] e fun vs => m_deque_Rows_Push_c31 vs w fun y w => m_deque_Rows_Push_c31_p y fun y => outK 81 [(.ret, [6])] k y w)
def m_deque_Rows_Push_c51_E : Env → World → Kont → Prop := (fun e w k => takeK 81 [0, 1, 2, 11] e fun vs => m_deque_Rows_Push_c51 vs w fun y w => m_deque_Rows_Push_c51_p y fun y => outK 81 [(.normal, [0, 1, 2]), (.ret, [6])] k y w)
def O_m_deque_Rows_Push : Orac := { loop := fun p => (fun _ _ _ => False), cut := fun p => cond (Nat.beq p 3) (some m_deque_Rows_Push_c3_E) (cond (Nat.beq p 31) (some m_deque_Rows_Push_c31_E) (cond (Nat.beq p 51) (some m_deque_Rows_Push_c51_E) (none))) }
theorem m_deque_Rows_Push_c51_owed : Owed P O_m_deque_Rows_Push (codeAt (bodyOf 182) [true, false, false, true, true, true]) 103 := owed_of (cast (by kernel_rfl) True.intro)
theorem m_deque_Rows_Push_c51_ok : Sound P (codeAt (bodyOf 182) [true, false, false, true, true, true]) m_deque_Rows_Push_c51_E := by
  refine piece_sound (evCode_sound W2 O_m_deque_Rows_Push (codeAt (bodyOf 182) [true, false, false, true, true, true]) 103 m_deque_Rows_Push_c51_owed) 81 [0, 1, 2, 11] [(.normal, [0, 1, 2]), (.ret, [6])] m_deque_Rows_Push_c51 ?_ m_deque_Rows_Push_c51_p m_deque_Rows_Push_c51_pok
  intro vs w out h
  unfold m_deque_Rows_Push_c51 at h
  split at h
  · exact cast (by kernel_rfl) h
  · exact h.elim
theorem m_deque_Rows_Push_c31_owed : Owed P O_m_deque_Rows_Push (codeAt (bodyOf 182) [true, true, true, true, true]) 63 := owed_of (cast (by kernel_rfl) True.intro)
theorem m_deque_Rows_Push_c31_ok : Sound P (codeAt (bodyOf 182) [true, true, true, true, true]) m_deque_Rows_Push_c31_E := by
  refine piece_sound (evCode_sound W2 O_m_deque_Rows_Push (codeAt (bodyOf 182) [true, true, true, true, true]) 63 m_deque_Rows_Push_c31_owed) 81 [2, 7] [(.ret, [6])] m_deque_Rows_Push_c31 ?_ m_deque_Rows_Push_c31_p m_deque_Rows_Push_c31_pok
  intro vs w out h
  unfold m_deque_Rows_Push_c31 at h
  split at h
  · exact cast (by kernel_rfl) h
  · exact h.elim
theorem m_deque_Rows_Push_c3_owed : Owed P O_m_deque_Rows_Push (codeAt (bodyOf 182) [true, true]) 7 := owed_of (cast (by kernel_rfl) m_deque_Rows_Push_c31_ok)
theorem m_deque_Rows_Push_c3_ok : Sound P (codeAt (bodyOf 182) [true, true]) m_deque_Rows_Push_c3_E := by
  refine piece_sound (evCode_sound W2 O_m_deque_Rows_Push (codeAt (bodyOf 182) [true, true]) 7 m_deque_Rows_Push_c3_owed) 81 [0, 1, 2] [(.ret, [6])] m_deque_Rows_Push_c3 ?_ m_deque_Rows_Push_c3_p m_deque_Rows_Push_c3_pok
  intro vs w out h
  unfold m_deque_Rows_Push_c3 at h
  split at h
  · exact cast (by kernel_rfl) h
  · exact h.elim
theorem m_deque_Rows_Push_owed : Owed P O_m_deque_Rows_Push (bodyOf 182) 1 := owed_of (cast (by kernel_rfl) (And.intro m_deque_Rows_Push_c51_ok m_deque_Rows_Push_c3_ok))
theorem m_deque_Rows_Push_eq (w1 : Option Addr) (row2 : Int) (i3 : Int) (w0 : World) (K : Value → World → Prop) : m_deque_Rows_Push w1 row2 i3 w0 K = evCode T0 P O_m_deque_Rows_Push (bodyOf 182) 1 (env0 (Array.toList #[(.pointer w1), (.int .i64 row2), (.int .i64 i3)]) (fnOf 182).ntmps) w0 (endK T0 (fnOf 182).results.toList K) := by kernel_rfl
theorem m_deque_Rows_Push_ok {w1 : Option Addr} {row2 : Int} {i3 : Int} {w0 : World} {K : Value → World → Prop} (h : m_deque_Rows_Push w1 row2 i3 w0 K) : CallsV P 182 #[(.pointer w1), (.int .i64 row2), (.int .i64 i3)] w0 K :=
  func_sound W2 func_182 body_182 m_deque_Rows_Push_owed (Eq.mp (m_deque_Rows_Push_eq w1 row2 i3 w0 K) h)


def m_deque_Rows_Remove_c63 (vs : List Value) (w0 : World) (out : Nat × List Value → World → Prop) : Prop :=
  match vs with
  | [.pointer w41, .int .i64 i42, .pointer (some r43)] => ∃ (n44 : Int), World.cell? w0 (r43.add 2) = some (.int .i64 n44) ∧ St ((r43.add 2).add 0) (.int .i64 (IntKind.wrap .i64 (n44 - 1))) w0 fun w45 => Nn w41 fun w46 => ∃ (sA47 : Option Addr) (sL48 : Nat) (sC49 : Nat), World.cell? w45 (w46.add 1) = some (.slice sA47 sL48 sC49) ∧ Ix sA47 sL48 i42 fun a50 => St ((a50.add (Int.toNat i42 * 3)).add 0) (.int .i64 (-1)) w45 fun w51 => St ((a50.add (Int.toNat i42 * 3)).add 1) (.int .i64 (-1)) w51 fun w52 => St ((a50.add (Int.toNat i42 * 3)).add 2) (.int .i64 (-1)) w52 fun w53 => out (0, [(.int .i64 0)]) w53
  | _ => False

def m_deque_Rows_Remove_c63_o (y : Nat × List Value) (k0 : Int → Prop) : Prop :=
  match y with
  | (0, [.int .i64 n54]) => k0 n54
  | _ => False

def m_deque_Rows_Remove_c31 (vs : List Value) (w0 : World) (out : Nat × List Value → World → Prop) : Prop :=
  match vs with
  | [.pointer w34, .int .i64 i35, .pointer (some l36), .pointer (some r37)] => ∃ (n38 : Int), World.cell? w0 (l36.add 2) = some (.int .i64 n38) ∧ (if (decide (n38 = (-1))) = true then ∃ (n39 : Int), World.cell? w0 (l36.add 1) = some (.int .i64 n39) ∧ St ((r37.add 1).add 0) (.int .i64 n39) w0 fun w40 => m_deque_Rows_Remove_c63 [(.pointer w34), (.int .i64 i35), (.pointer (some r37))] w40 fun y56 w55 => m_deque_Rows_Remove_c63_o y56 (fun n57 => out (0, [(.int .i64 n57)]) w55) else Nn w34 fun w58 => ∃ (sA59 : Option Addr) (sL60 : Nat) (sC61 : Nat), World.cell? (World.drew w0) (w58.add 1) = some (.slice sA59 sL60 sC61) ∧ ∃ (n62 : Int), World.cell? (World.drew w0) (l36.add 2) = some (.int .i64 n62) ∧ ∃ (n63 : Int), World.cell? (World.drew w0) (l36.add 1) = some (.int .i64 n63) ∧ Ix sA59 sL60 n62 fun a64 => St (((a64.add (Int.toNat n62 * 3)).add 1).add 0) (.int .i64 n63) (World.drew w0) fun w65 => m_deque_Rows_Remove_c63 [(.pointer w34), (.int .i64 i35), (.pointer (some r37))] w65 fun y67 w66 => m_deque_Rows_Remove_c63_o y67 (fun n68 => out (0, [(.int .i64 n68)]) w66))
  | _ => False

def m_deque_Rows_Remove_c31_o (y : Nat × List Value) (k0 : Int → Prop) : Prop :=
  match y with
  | (0, [.int .i64 n69]) => k0 n69
  | _ => False

/-- (*overfall/deque.Rows).Remove -/
def m_deque_Rows_Remove (w1 : Option Addr) (i2 : Int) (w0 : World) (K : Value → World → Prop) : Prop :=
  (if (Option.isNone w1) = true then K (.int .i64 3) w0 else CallsV P 226 #[(.pointer w1), (.int .i64 i2)] w0 fun v3 w4 => ∃ (b5 : Bool), v3 = (.bool b5) ∧ (if (!b5) = true then K (.int .i64 1) w4 else Nn w1 fun w6 => ∃ (sA7 : Option Addr) (sL8 : Nat) (sC9 : Nat), World.cell? w4 (w6.add 1) = some (.slice sA7 sL8 sC9) ∧ Ix sA7 sL8 i2 fun a10 => ∃ (n11 : Int), World.cell? w4 ((a10.add (Int.toNat i2 * 3)).add 0) = some (.int .i64 n11) ∧ (if (decide (n11 = (-1))) = true then K (.int .i64 3) w4 else Nn w1 fun w12 => ∃ (sA13 : Option Addr) (sL14 : Nat) (sC15 : Nat), World.cell? w4 (w12.add 1) = some (.slice sA13 sL14 sC15) ∧ Ix sA13 sL14 i2 fun a16 => ∃ (n17 : Int), World.cell? w4 ((a16.add (Int.toNat i2 * 3)).add 0) = some (.int .i64 n17) ∧ ∃ (n18 : Int), World.cell? w4 ((a16.add (Int.toNat i2 * 3)).add 1) = some (.int .i64 n18) ∧ ∃ (n19 : Int), World.cell? w4 ((a16.add (Int.toNat i2 * 3)).add 2) = some (.int .i64 n19) ∧ Al #[(.int .i64 0), (.int .i64 0), (.int .i64 0)] 318 w4 fun b20 w21 => St ((⟨b20, 0, none⟩ : Addr).add 0) (.int .i64 n17) w21 fun w22 => St ((⟨b20, 0, none⟩ : Addr).add 1) (.int .i64 n18) w22 fun w23 => St ((⟨b20, 0, none⟩ : Addr).add 2) (.int .i64 n19) w23 fun w24 => Nn w1 fun w25 => ∃ (sA26 : Option Addr) (sL27 : Nat) (sC28 : Nat), World.cell? (World.drew w24) (w25.add 0) = some (.slice sA26 sL27 sC28) ∧ ∃ (n29 : Int), World.cell? (World.drew w24) ((⟨b20, 0, none⟩ : Addr).add 0) = some (.int .i64 n29) ∧ Ix sA26 sL27 n29 fun a30 => ∃ (n31 : Int), World.cell? (World.drew w24) ((⟨b20, 0, none⟩ : Addr).add 1) = some (.int .i64 n31) ∧ (if (decide (n31 = (-1))) = true then ∃ (n32 : Int), World.cell? (World.drew w24) ((⟨b20, 0, none⟩ : Addr).add 2) = some (.int .i64 n32) ∧ St (((a30.add (Int.toNat n29 * 3)).add 0).add 0) (.int .i64 n32) (World.drew w24) fun w33 => m_deque_Rows_Remove_c31 [(.pointer w1), (.int .i64 i2), (.pointer (some (⟨b20, 0, none⟩ : Addr))), (.pointer (some (a30.add (Int.toNat n29 * 3))))] w33 fun y71 w70 => m_deque_Rows_Remove_c31_o y71 (fun n72 => K (.int .i64 n72) w70) else Nn w1 fun w73 => ∃ (sA74 : Option Addr) (sL75 : Nat) (sC76 : Nat), World.cell? (World.drew (World.drew w24)) (w73.add 1) = some (.slice sA74 sL75 sC76) ∧ ∃ (n77 : Int), World.cell? (World.drew (World.drew w24)) ((⟨b20, 0, none⟩ : Addr).add 1) = some (.int .i64 n77) ∧ ∃ (n78 : Int), World.cell? (World.drew (World.drew w24)) ((⟨b20, 0, none⟩ : Addr).add 2) = some (.int .i64 n78) ∧ Ix sA74 sL75 n77 fun a79 => St (((a79.add (Int.toNat n77 * 3)).add 2).add 0) (.int .i64 n78) (World.drew (World.drew w24)) fun w80 => m_deque_Rows_Remove_c31 [(.pointer w1), (.int .i64 i2), (.pointer (some (⟨b20, 0, none⟩ : Addr))), (.pointer (some (a30.add (Int.toNat n29 * 3))))] w80 fun y82 w81 => m_deque_Rows_Remove_c31_o y82 (fun n83 => K (.int .i64 n83) w81)))))

theorem func_223 : P.funcs[223]? = some (fnOf 223) := by kernel_rfl
theorem body_223 : (fnOf 223).body = some (bodyOf 223) := by kernel_rfl
def m_deque_Rows_Remove_c31_p (y : Nat × List Value) (k : Nat × List Value → Prop) : Prop := m_deque_Rows_Remove_c31_o y (fun n69 => k (0, [(.int .i64 n69)]))
theorem m_deque_Rows_Remove_c31_pok : ∀ y k, m_deque_Rows_Remove_c31_p y k → k y := by
  intro y k h
  unfold m_deque_Rows_Remove_c31_p m_deque_Rows_Remove_c31_o at h
  split at h <;> first | exact h | exact h.elim
def m_deque_Rows_Remove_c63_p (y : Nat × List Value) (k : Nat × List Value → Prop) : Prop := m_deque_Rows_Remove_c63_o y (fun n54 => k (0, [(.int .i64 n54)]))
theorem m_deque_Rows_Remove_c63_pok : ∀ y k, m_deque_Rows_Remove_c63_p y k → k y := by
  intro y k h
  unfold m_deque_Rows_Remove_c63_p m_deque_Rows_Remove_c63_o at h
  split at h <;> first | exact h | exact h.elim
def m_deque_Rows_Remove_c31_E : Env → World → Kont → Prop := (fun e w k => takeK 89 [0, 1, 5, 6] e fun vs => m_deque_Rows_Remove_c31 vs w fun y w => m_deque_Rows_Remove_c31_p y fun y => outK 89 [(.ret, [4])] k y w)
def m_deque_Rows_Remove_c63_E : Env → World → Kont → Prop := (fun e w k => takeK 89 [0, 1, 6] e fun vs => m_deque_Rows_Remove_c63 vs w fun y w => m_deque_Rows_Remove_c63_p y fun y => outK 89 [(.ret, [4])] k y w)
def O_m_deque_Rows_Remove : Orac := { loop := fun p => (fun _ _ _ => False), cut := fun p => cond (Nat.beq p 31) (some m_deque_Rows_Remove_c31_E) (cond (Nat.beq p 63) (some m_deque_Rows_Remove_c63_E) (none)) }
theorem m_deque_Rows_Remove_c63_owed : Owed P O_m_deque_Rows_Remove (codeAt (bodyOf 223) [true, true, true, true, true, true]) 127 := owed_of (cast (by kernel_rfl) True.intro)
theorem m_deque_Rows_Remove_c63_ok : Sound P (codeAt (bodyOf 223) [true, true, true, true, true, true]) m_deque_Rows_Remove_c63_E := by
  refine piece_sound (evCode_sound W2 O_m_deque_Rows_Remove (codeAt (bodyOf 223) [true, true, true, true, true, true]) 127 m_deque_Rows_Remove_c63_owed) 89 [0, 1, 6] [(.ret, [4])] m_deque_Rows_Remove_c63 ?_ m_deque_Rows_Remove_c63_p m_deque_Rows_Remove_c63_pok
  intro vs w out h
  unfold m_deque_Rows_Remove_c63 at h
  split at h
  · exact cast (by kernel_rfl) h
  · exact h.elim
theorem m_deque_Rows_Remove_c31_owed : Owed P O_m_deque_Rows_Remove (codeAt (bodyOf 223) [true, true, true, true, true]) 63 := owed_of (cast (by kernel_rfl) m_deque_Rows_Remove_c63_ok)
theorem m_deque_Rows_Remove_c31_ok : Sound P (codeAt (bodyOf 223) [true, true, true, true, true]) m_deque_Rows_Remove_c31_E := by
  refine piece_sound (evCode_sound W2 O_m_deque_Rows_Remove (codeAt (bodyOf 223) [true, true, true, true, true]) 63 m_deque_Rows_Remove_c31_owed) 89 [0, 1, 5, 6] [(.ret, [4])] m_deque_Rows_Remove_c31 ?_ m_deque_Rows_Remove_c31_p m_deque_Rows_Remove_c31_pok
  intro vs w out h
  unfold m_deque_Rows_Remove_c31 at h
  split at h
  · exact cast (by kernel_rfl) h
  · exact h.elim
theorem m_deque_Rows_Remove_owed : Owed P O_m_deque_Rows_Remove (bodyOf 223) 1 := owed_of (cast (by kernel_rfl) m_deque_Rows_Remove_c31_ok)
theorem m_deque_Rows_Remove_eq (w1 : Option Addr) (i2 : Int) (w0 : World) (K : Value → World → Prop) : m_deque_Rows_Remove w1 i2 w0 K = evCode T0 P O_m_deque_Rows_Remove (bodyOf 223) 1 (env0 (Array.toList #[(.pointer w1), (.int .i64 i2)]) (fnOf 223).ntmps) w0 (endK T0 (fnOf 223).results.toList K) := by kernel_rfl
theorem m_deque_Rows_Remove_ok {w1 : Option Addr} {i2 : Int} {w0 : World} {K : Value → World → Prop} (h : m_deque_Rows_Remove w1 i2 w0 K) : CallsV P 223 #[(.pointer w1), (.int .i64 i2)] w0 K :=
  func_sound W2 func_223 body_223 m_deque_Rows_Remove_owed (Eq.mp (m_deque_Rows_Remove_eq w1 i2 w0 K) h)


def m_deque_New_l122 (vs : List Value) (w0 : World) (next : List Value → World → Prop) (out : Nat × List Value → World → Prop) : Prop :=
  match vs with
  | [.pointer (some w20), .int .i64 n21, .int .i64 n22] => (if (decide (n22 < n21)) = true then ∃ (sA23 : Option Addr) (sL24 : Nat) (sC25 : Nat), World.cell? w0 (w20.add 0) = some (.slice sA23 sL24 sC25) ∧ Ix sA23 sL24 n22 fun a26 => St ((a26.add (Int.toNat n22 * 3)).add 0) (.int .i64 (-1)) w0 fun w27 => St ((a26.add (Int.toNat n22 * 3)).add 1) (.int .i64 (-1)) w27 fun w28 => St ((a26.add (Int.toNat n22 * 3)).add 2) (.int .i64 0) w28 fun w29 => next [(.pointer (some w20)), (.int .i64 n21), (.int .i64 (IntKind.wrap .i64 (n22 + 1)))] w29 else out (0, [(.pointer (some w20))]) w0)
  | _ => False

def m_deque_New_l122_o (y : Nat × List Value) (k0 : Addr → Prop) : Prop :=
  match y with
  | (0, [.pointer (some w30)]) => k0 w30
  | _ => False

def m_deque_New_l250 (vs : List Value) (w0 : World) (next : List Value → World → Prop) (out : Nat × List Value → World → Prop) : Prop :=
  match vs with
  | [.pointer (some w37), .int .i64 n38, .int .i64 n39] => (if (decide (n39 < n38)) = true then ∃ (sA40 : Option Addr) (sL41 : Nat) (sC42 : Nat), World.cell? w0 (w37.add 1) = some (.slice sA40 sL41 sC42) ∧ Ix sA40 sL41 n39 fun a43 => St (((a43.add (Int.toNat n39 * 3)).add 0).add 0) (.int .i64 (-1)) w0 fun w44 => next [(.pointer (some w37)), (.int .i64 n38), (.int .i64 (IntKind.wrap .i64 (n39 + 1)))] w44 else out (0, [(.pointer (some w37))]) w0)
  | _ => False

def m_deque_New_l250_o (y : Nat × List Value) (k0 : Addr → Prop) : Prop :=
  match y with
  | (0, [.pointer (some w45)]) => k0 w45
  | _ => False

def m_deque_New_c3 (vs : List Value) (w0 : World) (out : Nat × List Value → World → Prop) : Prop :=
  match vs with
  | [.int .i64 rows3, .int .i64 room4] => ((Run P (Instr.makeSlice 311 (.int .i64 rows3) (.int .i64 rows3)) (World.drew w0) fun v5 w6 => ∃ (sA7 : Option Addr) (sL8 : Nat) (sC9 : Nat), v5 = (.slice sA7 sL8 sC9) ∧ Run P (Instr.makeSlice 312 (.int .i64 room4) (.int .i64 room4)) w6 fun v10 w11 => ∃ (sA12 : Option Addr) (sL13 : Nat) (sC14 : Nat), v10 = (.slice sA12 sL13 sC14) ∧ Al #[(.slice sA7 sL8 sC9), (.slice sA12 sL13 sC14)] 314 w11 fun b15 w16 => ∃ (sA17 : Option Addr) (sL18 : Nat) (sC19 : Nat), World.cell? w16 ((⟨b15, 0, none⟩ : Addr).add 0) = some (.slice sA17 sL18 sC19) ∧ LoopP m_deque_New_l122 [(.pointer (some (⟨b15, 0, none⟩ : Addr))), (.int .i64 ((sL18 : Nat) : Int)), (.int .i64 0)] w16 fun y32 w31 => m_deque_New_l122_o y32 (fun w33 => ∃ (sA34 : Option Addr) (sL35 : Nat) (sC36 : Nat), World.cell? w31 (w33.add 1) = some (.slice sA34 sL35 sC36) ∧ LoopP m_deque_New_l250 [(.pointer (some w33)), (.int .i64 ((sL35 : Nat) : Int)), (.int .i64 0)] w31 fun y47 w46 => m_deque_New_l250_o y47 (fun w48 => out (0, [(.pointer (some w48)), (.int .i64 0)]) w46))) ∧ (Run P (Instr.makeSlice 312 (.int .i64 room4) (.int .i64 room4)) (World.drew w0) fun v49 w50 => ∃ (sA51 : Option Addr) (sL52 : Nat) (sC53 : Nat), v49 = (.slice sA51 sL52 sC53) ∧ Run P (Instr.makeSlice 311 (.int .i64 rows3) (.int .i64 rows3)) w50 fun v54 w55 => ∃ (sA56 : Option Addr) (sL57 : Nat) (sC58 : Nat), v54 = (.slice sA56 sL57 sC58) ∧ Al #[(.slice sA56 sL57 sC58), (.slice sA51 sL52 sC53)] 314 w55 fun b59 w60 => ∃ (sA61 : Option Addr) (sL62 : Nat) (sC63 : Nat), World.cell? w60 ((⟨b59, 0, none⟩ : Addr).add 0) = some (.slice sA61 sL62 sC63) ∧ LoopP m_deque_New_l122 [(.pointer (some (⟨b59, 0, none⟩ : Addr))), (.int .i64 ((sL62 : Nat) : Int)), (.int .i64 0)] w60 fun y65 w64 => m_deque_New_l122_o y65 (fun w66 => ∃ (sA67 : Option Addr) (sL68 : Nat) (sC69 : Nat), World.cell? w64 (w66.add 1) = some (.slice sA67 sL68 sC69) ∧ LoopP m_deque_New_l250 [(.pointer (some w66)), (.int .i64 ((sL68 : Nat) : Int)), (.int .i64 0)] w64 fun y71 w70 => m_deque_New_l250_o y71 (fun w72 => out (0, [(.pointer (some w72)), (.int .i64 0)]) w70))))
  | _ => False

def m_deque_New_c3_o (y : Nat × List Value) (k0 : Option Addr → Int → Prop) : Prop :=
  match y with
  | (0, [.pointer p73, .int .i64 n74]) => k0 p73 n74
  | _ => False

/-- overfall/deque.New -/
def m_deque_New (rows1 : Int) (room2 : Int) (w0 : World) (K : Value → World → Prop) : Prop :=
  (if (decide (rows1 < 1)) = true then K (.tuple #[(.pointer none), (.int .i64 1)]) w0 else (if (decide (8 < rows1)) = true then K (.tuple #[(.pointer none), (.int .i64 1)]) w0 else (if (decide (room2 < 1)) = true then K (.tuple #[(.pointer none), (.int .i64 1)]) w0 else (if (decide (1024 < room2)) = true then K (.tuple #[(.pointer none), (.int .i64 1)]) w0 else m_deque_New_c3 [(.int .i64 rows1), (.int .i64 room2)] w0 fun y76 w75 => m_deque_New_c3_o y76 (fun p77 n78 => K (.tuple #[(.pointer p77), (.int .i64 n78)]) w75)))))

theorem func_123 : P.funcs[123]? = some (fnOf 123) := by kernel_rfl
theorem body_123 : (fnOf 123).body = some (bodyOf 123) := by kernel_rfl
def m_deque_New_c3_p (y : Nat × List Value) (k : Nat × List Value → Prop) : Prop := m_deque_New_c3_o y (fun p73 n74 => k (0, [(.pointer p73), (.int .i64 n74)]))
theorem m_deque_New_c3_pok : ∀ y k, m_deque_New_c3_p y k → k y := by
  intro y k h
  unfold m_deque_New_c3_p m_deque_New_c3_o at h
  split at h <;> first | exact h | exact h.elim
def m_deque_New_l122_p (y : Nat × List Value) (k : Nat × List Value → Prop) : Prop := m_deque_New_l122_o y (fun w30 => k (0, [(.pointer (some w30))]))
theorem m_deque_New_l122_pok : ∀ y k, m_deque_New_l122_p y k → k y := by
  intro y k h
  unfold m_deque_New_l122_p m_deque_New_l122_o at h
  split at h <;> first | exact h | exact h.elim
def m_deque_New_l250_p (y : Nat × List Value) (k : Nat × List Value → Prop) : Prop := m_deque_New_l250_o y (fun w45 => k (0, [(.pointer (some w45))]))
theorem m_deque_New_l250_pok : ∀ y k, m_deque_New_l250_p y k → k y := by
  intro y k h
  unfold m_deque_New_l250_p m_deque_New_l250_o at h
  split at h <;> first | exact h | exact h.elim
def m_deque_New_c3_E : Env → World → Kont → Prop := (fun e w k => takeK 62 [0, 1] e fun vs => m_deque_New_c3 vs w fun y w => m_deque_New_c3_p y fun y => outK 62 [(.ret, [4, 5])] k y w)
def m_deque_New_l122_E : Env → World → Kont → Prop := (fun e w k => takeK 62 [6, 33, 34] e fun vs => LoopP m_deque_New_l122 vs w fun y w => m_deque_New_l122_p y fun y => outK 62 [(.exit 0, [6])] k y w)
def m_deque_New_l250_E : Env → World → Kont → Prop := (fun e w k => takeK 62 [6, 49, 50] e fun vs => LoopP m_deque_New_l250 vs w fun y w => m_deque_New_l250_p y fun y => outK 62 [(.exit 2, [6])] k y w)
def O_m_deque_New : Orac := { loop := fun p => cond (Nat.beq p 122) m_deque_New_l122_E (cond (Nat.beq p 250) m_deque_New_l250_E ((fun _ _ _ => False))), cut := fun p => cond (Nat.beq p 3) (some m_deque_New_c3_E) (none) }
theorem m_deque_New_l250_owed : Owed P O_m_deque_New (loopBody (codeAt (bodyOf 123) [true, true, true, true, false, true, false])) 500 := owed_of (cast (by kernel_rfl) True.intro)
theorem m_deque_New_l250_ok : Sound P (.loop (loopBody (codeAt (bodyOf 123) [true, true, true, true, false, true, false]))) m_deque_New_l250_E := by
  refine loop_sound (evCode_sound W2 O_m_deque_New (loopBody (codeAt (bodyOf 123) [true, true, true, true, false, true, false])) 500 m_deque_New_l250_owed) 62 [6, 49, 50] [(.exit 2, [6])] m_deque_New_l250 ?_ m_deque_New_l250_p m_deque_New_l250_pok
  intro vs w next out h
  unfold m_deque_New_l250 at h
  split at h
  · exact cast (by kernel_rfl) h
  · exact h.elim
theorem m_deque_New_l122_owed : Owed P O_m_deque_New (loopBody (codeAt (bodyOf 123) [true, true, true, false, true, false])) 244 := owed_of (cast (by kernel_rfl) True.intro)
theorem m_deque_New_l122_ok : Sound P (.loop (loopBody (codeAt (bodyOf 123) [true, true, true, false, true, false]))) m_deque_New_l122_E := by
  refine loop_sound (evCode_sound W2 O_m_deque_New (loopBody (codeAt (bodyOf 123) [true, true, true, false, true, false])) 244 m_deque_New_l122_owed) 62 [6, 33, 34] [(.exit 0, [6])] m_deque_New_l122 ?_ m_deque_New_l122_p m_deque_New_l122_pok
  intro vs w next out h
  unfold m_deque_New_l122 at h
  split at h
  · exact cast (by kernel_rfl) h
  · exact h.elim
theorem m_deque_New_c3_owed : Owed P O_m_deque_New (codeAt (bodyOf 123) [true, true]) 7 := owed_of (cast (by kernel_rfl) (And.intro m_deque_New_l122_ok m_deque_New_l250_ok))
theorem m_deque_New_c3_ok : Sound P (codeAt (bodyOf 123) [true, true]) m_deque_New_c3_E := by
  refine piece_sound (evCode_sound W2 O_m_deque_New (codeAt (bodyOf 123) [true, true]) 7 m_deque_New_c3_owed) 62 [0, 1] [(.ret, [4, 5])] m_deque_New_c3 ?_ m_deque_New_c3_p m_deque_New_c3_pok
  intro vs w out h
  unfold m_deque_New_c3 at h
  split at h
  · exact cast (by kernel_rfl) h
  · exact h.elim
theorem m_deque_New_owed : Owed P O_m_deque_New (bodyOf 123) 1 := owed_of (cast (by kernel_rfl) m_deque_New_c3_ok)
theorem m_deque_New_eq (rows1 : Int) (room2 : Int) (w0 : World) (K : Value → World → Prop) : m_deque_New rows1 room2 w0 K = evCode T0 P O_m_deque_New (bodyOf 123) 1 (env0 (Array.toList #[(.int .i64 rows1), (.int .i64 room2)]) (fnOf 123).ntmps) w0 (endK T0 (fnOf 123).results.toList K) := by kernel_rfl
theorem m_deque_New_ok {rows1 : Int} {room2 : Int} {w0 : World} {K : Value → World → Prop} (h : m_deque_New rows1 room2 w0 K) : CallsV P 123 #[(.int .i64 rows1), (.int .i64 room2)] w0 K :=
  func_sound W2 func_123 body_123 m_deque_New_owed (Eq.mp (m_deque_New_eq rows1 room2 w0 K) h)


end Go.M

/- What the functions of the rows do. -/
set_option linter.all false
set_option linter.constructorNameAsVariable false
namespace Go.M
open Go Go.Eng Go.RowKit

variable {w : World} {pb rb kb : Nat} {s : RowsM} {K : Value → World → Prop}

theorem there_ok (hs : RowsAt w pb rb kb s) {t : Int} (hK : K (.bool (decide (0 ≤ t) && decide (t < (s.nr : Int)))) w) : CallsV P 225 #[.pointer (some ⟨pb, 0, none⟩), .int .i64 t] w K := by
  refine m_deque_Rows_there_ok ?_
  unfold m_deque_Rows_there
  refine if_yes (by simp) ?_
  by_cases h : 0 ≤ t
  · exact if_yes (by simpa using h) (nn_some (ld_slice hs.h_rows (by simpa [h] using hK)))
  · exact if_no (by simpa using h) (by simpa [h] using hK)

theorem member_ok (hs : RowsAt w pb rb kb s) {t : Int} (hK : K (.bool (decide (0 ≤ t) && decide (t < (s.nk : Int)))) w) : CallsV P 226 #[.pointer (some ⟨pb, 0, none⟩), .int .i64 t] w K := by
  refine m_deque_Rows_member_ok ?_
  unfold m_deque_Rows_member
  by_cases h : 0 ≤ t
  · exact if_yes (by simpa using h) (nn_some (ld_slice (p := some ⟨kb, 0, none⟩) (l := s.nk) (c := s.nk) (by simpa using hs.h_links) (by simpa [h] using hK)))
  · exact if_no (by simpa using h) (by simpa [h] using hK)

theorem rowsLen_ok (hs : RowsAt w pb rb kb s) {t : Int} (hK : K (.int .i64 (if 0 ≤ t ∧ t < (s.nr : Int) then s.count t.toNat else 0)) w) : CallsV P 184 #[.pointer (some ⟨pb, 0, none⟩), .int .i64 t] w K := by
  refine m_deque_Rows_Len_ok ?_
  unfold m_deque_Rows_Len
  refine there_ok hs ⟨_, rfl, ?_⟩
  by_cases h : 0 ≤ t ∧ t < (s.nr : Int)
  · rw [if_pos h] at hK
    refine if_no (by simp [h]) (nn_some (ld_slice hs.h_rows (ix_some h.1 h.2 ?_)))
    simp only [addr_add, Nat.add_zero, Nat.zero_add]
    exact ld_int (hs.c_count t.toNat (by omega)) hK
  · rw [if_neg h] at hK
    refine if_yes ?_ hK
    simp only [Bool.not_eq_true', Bool.and_eq_false_iff, decide_eq_false_iff_not]
    omega

/-- a row's end -/
def RowsM.endM (s : RowsM) (t : Int) (back : Bool) : Int × Bool :=
  if 0 ≤ t ∧ t < (s.nr : Int) ∧ s.count t.toNat ≠ 0 then (if back = true then s.back t.toNat else s.front t.toNat, true) else (0, false)

theorem end3_ok (hs : RowsAt w pb rb kb s) {t : Nat} (ht : t < s.nr) {b : Bool} {out : Nat × List Value → World → Prop} (hK : out (0, [.int .i64 (if b = true then s.back t else s.front t), .bool true]) w) :
    m_deque_Rows_end_c3 [.pointer (some ⟨pb, 0, none⟩), .int .i64 (t : Int), .bool b] w out := by
  unfold m_deque_Rows_end_c3
  cases b with
  | true =>
    refine if_yes rfl (nn_some (ld_slice hs.h_rows (ix_nat ht ?_)))
    simp only [addr_add, Nat.add_zero, Nat.zero_add, Int.toNat_natCast]
    exact ld_int (hs.c_back t ht) (by simpa using hK)
  | false =>
    refine if_no (by simp) (nn_some (ld_slice hs.h_rows (ix_nat ht ?_)))
    simp only [addr_add, Nat.add_zero, Nat.zero_add, Int.toNat_natCast]
    exact ld_int (hs.c_front t ht) (by simpa using hK)

theorem end_row_ok (hs : RowsAt w pb rb kb s) {t : Int} {b : Bool} (hK : K (.tuple #[.int .i64 (s.endM t b).1, .bool (s.endM t b).2]) w) : CallsV P 201 #[.pointer (some ⟨pb, 0, none⟩), .int .i64 t, .bool b] w K := by
  refine m_deque_Rows_end_ok ?_
  unfold m_deque_Rows_end
  refine there_ok hs ⟨_, rfl, ?_⟩
  unfold RowsM.endM at hK
  by_cases h : 0 ≤ t ∧ t < (s.nr : Int)
  · obtain ⟨n, rfl⟩ := Int.eq_ofNat_of_zero_le h.1
    have hn : n < s.nr := by omega
    simp only [Int.toNat_natCast] at hK
    refine if_no (by simp; omega) (nn_some (ld_slice hs.h_rows (ix_nat hn ?_)))
    simp only [addr_add, Nat.add_zero, Nat.zero_add, Int.toNat_natCast]
    refine ld_int (hs.c_count n hn) ?_
    by_cases hc : s.count n = 0
    · exact if_yes (by simpa using hc) (by simpa [hc] using hK)
    · refine if_no (by simpa using hc) (end3_ok hs hn ?_)
      simp only [m_deque_Rows_end_c3_o]
      rw [if_pos ⟨h.1, h.2, hc⟩] at hK
      exact hK
  · rw [if_neg (by omega)] at hK
    refine if_yes ?_ hK
    simp only [Bool.not_eq_true', Bool.and_eq_false_iff, decide_eq_false_iff_not]
    omega

theorem front_ok (hs : RowsAt w pb rb kb s) {t : Int} (hK : K (.tuple #[.int .i64 (s.endM t false).1, .bool (s.endM t false).2]) w) : CallsV P 185 #[.pointer (some ⟨pb, 0, none⟩), .int .i64 t] w K := by
  refine m_deque_Rows_Front_ok ?_
  unfold m_deque_Rows_Front
  exact end_row_ok hs ⟨_, _, rfl, hK⟩
theorem back_ok (hs : RowsAt w pb rb kb s) {t : Int} (hK : K (.tuple #[.int .i64 (s.endM t true).1, .bool (s.endM t true).2]) w) : CallsV P 177 #[.pointer (some ⟨pb, 0, none⟩), .int .i64 t] w K := by
  refine m_deque_Rows_Back_ok ?_
  unfold m_deque_Rows_Back
  exact end_row_ok hs ⟨_, _, rfl, hK⟩

/-- the model of Push -/
def RowsM.push (s : RowsM) (t i : Nat) : RowsM :=
  let s1 := { s with row := upd s.row i t, prev := upd s.prev i (s.back t), next := upd s.next i (-1) }
  let s2 := if s.back t = -1 then { s1 with front := upd s1.front t i } else { s1 with next := upd s1.next (s.back t).toNat i }
  { s2 with back := upd s2.back t i, count := upd s2.count t (s2.count t + 1) }

theorem push_nil {s : RowsM} {t i : Nat} (h : s.back t = -1) : s.push t i = { s with row := upd s.row i t, prev := upd s.prev i (s.back t), next := upd s.next i (-1), front := upd s.front t i, back := upd s.back t i, count := upd s.count t (s.count t + 1) } := by
  unfold RowsM.push; simp only [if_pos h]
theorem push_cons {s : RowsM} {t i j : Nat} (h : s.back t = j) : s.push t i = { s with row := upd s.row i t, prev := upd s.prev i j, next := upd (upd s.next i (-1)) j i, back := upd s.back t i, count := upd s.count t (s.count t + 1) } := by
  have h' : ¬ s.back t = -1 := by omega
  unfold RowsM.push; simp only [if_neg h']
  rw [h]
  simp

theorem push31_ok (hs : RowsAt w pb rb kb s) {t i : Nat} (ht : t < s.nr) (hc : 0 ≤ s.count t ∧ s.count t + 1 ≤ 9223372036854775807) {w0 : World} (ho : Only [pb, rb, kb] w0 w) {out : Nat × List Value → World → Prop}
    (hK : ∀ w', Only [pb, rb, kb] w0 w' → RowsAt w' pb rb kb { s with back := upd s.back t i, count := upd s.count t (s.count t + 1) } → out (0, [.int .i64 0]) w') :
    m_deque_Rows_Push_c31 [.int .i64 (i : Int), .pointer (some ⟨rb, t * 3, none⟩)] w out := by
  unfold m_deque_Rows_Push_c31
  simp only [addr_add, Nat.add_zero, Nat.zero_add]
  have s1 := hs.set_back ht (i : Int)
  have o1 := ho.st (v := .int .i64 (i : Int)) (.inl (by simp)) (hs.c_back t ht)
  refine St_at (hs.c_back t ht) (hs.z_rb _) (ld_int (s1.c_count t ht) ?_)
  show St _ (.int .i64 (IntKind.wrap .i64 (s.count t + 1))) _ _
  rw [IntWalk.i64_in _ (by omega)]
  exact St_at (s1.c_count t ht) (s1.z_rb _) (hK _ (o1.st (.inl (by simp)) (s1.c_count t ht)) (s1.set_count ht _))

theorem push_ok (hs : RowsAt w pb rb kb s) {t i : Nat} (ht : t < s.nr) (hi : i < s.nk) (hfree : s.row i = -1) (hb : s.back t = -1 ∨ ∃ j : Nat, s.back t = j ∧ j < s.nk) (hc : 0 ≤ s.count t ∧ s.count t + 1 ≤ 9223372036854775807)
    (hK : ∀ w', Only [pb, rb, kb] w w' → RowsAt w' pb rb kb (s.push t i) → K (.int .i64 0) w') : CallsV P 182 #[.pointer (some ⟨pb, 0, none⟩), .int .i64 (t : Int), .int .i64 (i : Int)] w K := by
  refine m_deque_Rows_Push_ok ?_
  unfold m_deque_Rows_Push
  refine if_no (by simp) (there_ok hs ⟨_, rfl, if_no (by simp; omega) (member_ok hs ⟨_, rfl, ?_⟩)⟩)
  unfold m_deque_Rows_Push_c51
  simp only
  refine if_no (by simp; omega) (nn_some ?_)
  simp only [addr_add, Nat.add_zero, Nat.zero_add]
  refine ld_slice hs.h_links (ix_nat hi ?_)
  simp only [addr_add, Nat.add_zero, Nat.zero_add, Int.toNat_natCast]
  refine ld_int (hs.c_row i hi) (if_no (by simp [hfree]) ?_)
  simp only [m_deque_Rows_Push_c51_o]
  unfold m_deque_Rows_Push_c3
  refine nn_some (ld_slice hs.h_rows (ix_nat ht (nn_some ?_)))
  simp only [addr_add, Nat.add_zero, Nat.zero_add, Int.toNat_natCast]
  have hd := hs.drew
  have o0 : Only [pb, rb, kb] w w.drew := Only.drew w
  refine ld_slice hd.h_links (ld_int (hd.c_back t ht) (ix_nat hi ?_))
  simp only [addr_add, Nat.add_zero, Nat.zero_add, Int.toNat_natCast]
  have s1 := hd.set_row hi (t : Int)
  have o1 := o0.st (v := .int .i64 (t : Int)) (.inl (by simp)) (hd.c_row i hi)
  refine St_at (hd.c_row i hi) (hd.z_kb _) ?_
  have s2 := s1.set_prev hi (s.back t)
  have o2 := o1.st (v := .int .i64 (s.back t)) (.inl (by simp)) (s1.c_prev i hi)
  refine St_at (s1.c_prev i hi) (s1.z_kb _) ?_
  have s3 := s2.set_next hi (-1)
  have o3 := o2.st (v := .int .i64 (-1)) (.inl (by simp)) (s2.c_next i hi)
  refine St_at (s2.c_next i hi) (s2.z_kb _) (ld_int (s3.c_back t ht) ?_)
  rcases hb with hb | ⟨j, hb, hj⟩
  · rw [push_nil hb] at hK
    refine if_yes (by simpa using hb) ?_
    have s4 := s3.set_front ht (i : Int)
    have o4 := o3.st (v := .int .i64 (i : Int)) (.inl (by simp)) (s3.c_front t ht)
    refine St_at (s3.c_front t ht) (s3.z_rb _) (push31_ok s4 ht hc o4 fun w' ho hat => ?_)
    simp only [m_deque_Rows_Push_c31_o, m_deque_Rows_Push_c3_o]
    exact hK w' ho hat
  · rw [push_cons hb] at hK
    rw [hb] at s2 o2 s3 o3 ⊢
    refine if_no (by simp) (nn_some ?_)
    have s3d := s3.drew
    simp only [addr_add, Nat.add_zero, Nat.zero_add]
    refine ld_slice s3d.h_links (ld_int ((s3d.c_back t ht).trans (by rw [hb])) ?_)
    refine ix_nat hj ?_
    simp only [addr_add, Nat.add_zero, Nat.zero_add, Int.toNat_natCast]
    have s4 := s3d.set_next hj (i : Int)
    have o4 := (o3.trans (Only.drew _)).st (v := .int .i64 (i : Int)) (.inl (by simp)) (s3d.c_next j hj)
    refine St_at (s3d.c_next j hj) (s3d.z_kb _) (push31_ok s4 ht hc o4 fun w' ho hat => ?_)
    simp only [m_deque_Rows_Push_c31_o, m_deque_Rows_Push_c3_o]
    exact hK w' ho hat

end Go.M

/- New rows. -/
set_option linter.all false
set_option linter.constructorNameAsVariable false
namespace Go.M
open Go Go.Eng Go.RowKit

/-- rows without members -/
structure RowsM.Empty (s : RowsM) (nr nk : Nat) : Prop where
  enr : s.nr = nr
  enk : s.nk = nk
  efront : ∀ t, t < nr → s.front t = -1
  eback : ∀ t, t < nr → s.back t = -1
  ecount : ∀ t, t < nr → s.count t = 0
  erow : ∀ i, i < nk → s.row i = -1

theorem rowsTail_ok {w W : World} {pb rb kb nr nk : Nat} (hnr : nr ≤ 64) (hnk : nk ≤ 1024) (o0 : Only [] w W) (hp : w.heap.size ≤ pb) (hr : w.heap.size ≤ rb) (hk : w.heap.size ≤ kb) {r0 : RowsM} (h0 : RowsAt W pb rb kb r0) (e0 : r0.nr = nr ∧ r0.nk = nk)
    {out : Nat × List Value → World → Prop} (hK : ∀ w' r, Only [] w w' → RowsAt w' pb rb kb r → r.Empty nr nk → out (0, [.pointer (some ⟨pb, 0, none⟩), .int .i64 0]) w') :
    LoopP m_deque_New_l122 [.pointer (some ⟨pb, 0, none⟩), .int .i64 (nr : Int), .int .i64 0] W fun y w31 => m_deque_New_l122_o y fun w33 =>
      ∃ (sA : Option Addr) (sL : Nat) (sC : Nat), World.cell? w31 (w33.add 1) = some (.slice sA sL sC) ∧ LoopP m_deque_New_l250 [.pointer (some w33), .int .i64 ((sL : Nat) : Int), .int .i64 0] w31 fun y47 w46 => m_deque_New_l250_o y47 fun w48 => out (0, [.pointer (some w48), .int .i64 0]) w46 := by
  refine loop_count nr (fun i w' => Only [] w w' ∧ ∃ r, RowsAt w' pb rb kb r ∧ r.nr = nr ∧ r.nk = nk ∧ ∀ t, t < i → r.front t = -1 ∧ r.back t = -1 ∧ r.count t = 0)
    (fun i => [.pointer (some ⟨pb, 0, none⟩), .int .i64 (nr : Int), .int .i64 (i : Int)]) ?_ ?_ ⟨o0, r0, h0, e0.1, e0.2, fun t ht => by omega⟩
  · rintro i w' next hi ⟨ho, r, h, e1, e2, e3⟩ hnext
    unfold m_deque_New_l122
    simp only
    have hi' : i < r.nr := by omega
    refine if_yes (by simpa using hi) ?_
    simp only [addr_add, Nat.add_zero, Nat.zero_add]
    refine ld_slice h.h_rows (ix_nat hi' ?_)
    simp only [addr_add, Nat.add_zero, Nat.zero_add, Int.toNat_natCast]
    have s1 := h.set_front hi' (-1)
    have o1 := ho.st (v := .int .i64 (-1)) (.inr hr) (h.c_front i hi')
    refine St_at (h.c_front i hi') (h.z_rb _) ?_
    have s2 := s1.set_back hi' (-1)
    have o2 := o1.st (v := .int .i64 (-1)) (.inr hr) (s1.c_back i hi')
    refine St_at (s1.c_back i hi') (s1.z_rb _) ?_
    have s3 := s2.set_count hi' 0
    have o3 := o2.st (v := .int .i64 0) (.inr hr) (s2.c_count i hi')
    refine St_at (s2.c_count i hi') (s2.z_rb _) ?_
    rw [IntWalk.i64_in _ (by omega)]
    refine hnext _ ⟨o3, _, s3, e1, e2, fun t ht => ?_⟩
    by_cases e : t = i
    · subst e; simp
    · simp only [upd_other e]; exact e3 t (by omega)
  · rintro w' next ⟨ho, r, h, e1, e2, e3⟩
    unfold m_deque_New_l122
    simp only
    refine if_no (by simp) ?_
    simp only [m_deque_New_l122_o, addr_add, Nat.add_zero, Nat.zero_add]
    refine ld_slice h.h_links ?_
    rw [e2]
    refine loop_count nk (fun i w' => Only [] w w' ∧ ∃ r, RowsAt w' pb rb kb r ∧ r.nr = nr ∧ r.nk = nk ∧ (∀ t, t < nr → r.front t = -1 ∧ r.back t = -1 ∧ r.count t = 0) ∧ ∀ j, j < i → r.row j = -1)
      (fun i => [.pointer (some ⟨pb, 0, none⟩), .int .i64 (nk : Int), .int .i64 (i : Int)]) ?_ ?_ ⟨ho, r, h, e1, e2, e3, fun t ht => by omega⟩
    · rintro i w' next hi ⟨ho, r, h, e1, e2, e3, e4⟩ hnext
      unfold m_deque_New_l250
      simp only
      have hi' : i < r.nk := by omega
      refine if_yes (by simpa using hi) ?_
      simp only [addr_add, Nat.add_zero, Nat.zero_add]
      refine ld_slice h.h_links (ix_nat hi' ?_)
      simp only [addr_add, Nat.add_zero, Nat.zero_add, Int.toNat_natCast]
      have s1 := h.set_row hi' (-1)
      have o1 := ho.st (v := .int .i64 (-1)) (.inr hk) (h.c_row i hi')
      refine St_at (h.c_row i hi') (h.z_kb _) ?_
      rw [IntWalk.i64_in _ (by omega)]
      refine hnext _ ⟨o1, _, s1, e1, e2, e3, fun t ht => ?_⟩
      by_cases e : t = i
      · subst e; simp
      · simp only [upd_other e]; exact e4 t (by omega)
    · rintro w' next ⟨ho, r, h, e1, e2, e3, e4⟩
      unfold m_deque_New_l250
      simp only
      refine if_no (by simp) ?_
      simp only [m_deque_New_l250_o]
      exact hK w' r ho h ⟨e1, e2, fun t ht => (e3 t ht).1, fun t ht => (e3 t ht).2.1, fun t ht => (e3 t ht).2.2, e4⟩

theorem rowsNew_ok {nr nk : Nat} (h1 : 1 ≤ nr) (h2 : nr ≤ 8) (h3 : 1 ≤ nk) (h4 : nk ≤ 1024) {w : World} {K : Value → World → Prop}
    (hK : ∀ w' pb rb kb r, Only [] w w' → w.heap.size ≤ pb → w.heap.size ≤ rb → w.heap.size ≤ kb → RowsAt w' pb rb kb r → r.Empty nr nk → K (.tuple #[.pointer (some ⟨pb, 0, none⟩), .int .i64 0]) w') :
    CallsV P 123 #[.int .i64 (nr : Int), .int .i64 (nk : Int)] w K := by
  refine m_deque_New_ok ?_
  unfold m_deque_New
  refine if_no (by simp; omega) (if_no (by simp; omega) (if_no (by simp; omega) (if_no (by simp; omega) ?_)))
  unfold m_deque_New_c3
  have hg : ∀ (z : Array Value) (n : Nat), z.size = 3 → ∀ i k, i < n → k < 3 → (madeCells z (n * 3))[i * 3 + k]? = z[k]? := fun z n hz i k hi hk => by
    rw [made_get _ _ _ (by omega) (by omega)]
    have : (i * 3 + k) % z.size = k := by rw [hz]; omega
    rw [this]
  have hr := hg ti316.zero.cells nr rfl
  have hk := hg ti318.zero.cells nk rfl
  have hr0 : ∀ i, i < nr → (madeCells ti316.zero.cells (nr * 3))[i * 3]? = ti316.zero.cells[0]? := fun i hi => hr i 0 hi (by omega)
  have hk0 : ∀ i, i < nk → (madeCells ti318.zero.cells (nk * 3))[i * 3]? = ti318.zero.cells[0]? := fun i hi => hk i 0 hi (by omega)
  have q1 : ¬ (w.heap.size = w.heap.size + 1 + 1) := by omega
  have q2 : ¬ (w.heap.size = w.heap.size + 1) := by omega
  have q3 : ¬ (w.heap.size + 1 = w.heap.size + 1 + 1) := by omega
  have q4 : ¬ (w.heap.size + 1 = w.heap.size) := by omega
  refine ⟨?_, ?_⟩
  · refine make_ok W2 (t := 311) (e := 316) (ti := ti316) rfl rfl rfl (by simp [ti316]; omega) (by omega) ⟨_, _, _, rfl, ?_⟩
    refine make_ok W2 (t := 312) (e := 318) (ti := ti318) rfl rfl rfl (by simp [ti318]; omega) (by omega) ⟨_, _, _, rfl, al_intro ?_⟩
    simp only [World.size_alloc, size_drew]
    obtain ⟨W, hW⟩ : ∃ W, ((w.drew.alloc (.cells (madeCells ti316.zero.cells (nr * ti316.size)) 316)).alloc (.cells (madeCells ti318.zero.cells (nk * ti318.size)) 318)).alloc (.cells #[(.slice (some ⟨w.heap.size, 0, none⟩) nr nr), (.slice (some ⟨w.heap.size + 1, 0, none⟩) nk nk)] 314) = W := ⟨_, rfl⟩
    rw [hW]
    have o0 : Only [] w W := by rw [← hW]; exact (((Only.drew _).trans (Only.alloc _ _)).trans (Only.alloc _ _)).trans (Only.alloc _ _)
    have r0 : RowsAt W (w.heap.size + 1 + 1) w.heap.size (w.heap.size + 1) ⟨nr, nk, fun _ => 0, fun _ => 0, fun _ => 0, fun _ => 0, fun _ => 0, fun _ => 0⟩ := by
      rw [← hW]
      constructor <;> (try intro i) <;> (try intro hi) <;> (try simp [cell_new, frozen_new, World.size_alloc, size_drew, q1, q2, q3, q4])
      all_goals first | omega | (rw [show ti316.size = 3 from rfl, hr0 i hi]; rfl) | (rw [show ti316.size = 3 from rfl, hr i _ hi (by omega)]; rfl) | (rw [show ti318.size = 3 from rfl, hk0 i hi]; rfl) | (rw [show ti318.size = 3 from rfl, hk i _ hi (by omega)]; rfl)
    refine ld_slice r0.h_rows ?_
    refine rowsTail_ok (nr := nr) (nk := nk) (out := fun y w => m_deque_New_c3_o y fun p n => K (.tuple #[.pointer p, .int .i64 n]) w) (by omega) h4 o0 (by omega) (Nat.le_refl _) (by omega) r0 ⟨rfl, rfl⟩ fun w' r ho h he => ?_
    simp only [m_deque_New_c3_o]
    exact hK w' _ _ _ r ho (by omega) (Nat.le_refl _) (by omega) h he
  · refine make_ok W2 (t := 312) (e := 318) (ti := ti318) rfl rfl rfl (by simp [ti318]; omega) (by omega) ⟨_, _, _, rfl, ?_⟩
    refine make_ok W2 (t := 311) (e := 316) (ti := ti316) rfl rfl rfl (by simp [ti316]; omega) (by omega) ⟨_, _, _, rfl, al_intro ?_⟩
    simp only [World.size_alloc, size_drew]
    obtain ⟨W, hW⟩ : ∃ W, ((w.drew.alloc (.cells (madeCells ti318.zero.cells (nk * ti318.size)) 318)).alloc (.cells (madeCells ti316.zero.cells (nr * ti316.size)) 316)).alloc (.cells #[(.slice (some ⟨w.heap.size + 1, 0, none⟩) nr nr), (.slice (some ⟨w.heap.size, 0, none⟩) nk nk)] 314) = W := ⟨_, rfl⟩
    rw [hW]
    have o0 : Only [] w W := by rw [← hW]; exact (((Only.drew _).trans (Only.alloc _ _)).trans (Only.alloc _ _)).trans (Only.alloc _ _)
    have r0 : RowsAt W (w.heap.size + 1 + 1) (w.heap.size + 1) w.heap.size ⟨nr, nk, fun _ => 0, fun _ => 0, fun _ => 0, fun _ => 0, fun _ => 0, fun _ => 0⟩ := by
      rw [← hW]
      constructor <;> (try intro i) <;> (try intro hi) <;> (try simp [cell_new, frozen_new, World.size_alloc, size_drew, q1, q2, q3, q4])
      all_goals first | omega | (rw [show ti316.size = 3 from rfl, hr0 i hi]; rfl) | (rw [show ti316.size = 3 from rfl, hr i _ hi (by omega)]; rfl) | (rw [show ti318.size = 3 from rfl, hk0 i hi]; rfl) | (rw [show ti318.size = 3 from rfl, hk i _ hi (by omega)]; rfl)
    refine ld_slice r0.h_rows ?_
    refine rowsTail_ok (nr := nr) (nk := nk) (out := fun y w => m_deque_New_c3_o y fun p n => K (.tuple #[.pointer p, .int .i64 n]) w) (by omega) h4 o0 (by omega) (by omega) (Nat.le_refl _) r0 ⟨rfl, rfl⟩ fun w' r ho h he => ?_
    simp only [m_deque_New_c3_o]
    exact hK w' _ _ _ r ho (by omega) (by omega) (Nat.le_refl _) h he

end Go.M
