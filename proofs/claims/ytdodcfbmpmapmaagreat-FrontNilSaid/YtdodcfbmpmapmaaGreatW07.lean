/- Proofs about the front of the overload controller, part 7: G0 C6 C7 Mem3. -/
import Derived.Test.YtdodcfbmpmapmaaGreatW03
import Derived.Test.YtdodcfbmpmapmaaGreatW06
import Derived.Test.YtdodcfbmpmapmaaGreatW04
set_option linter.all false
set_option linter.constructorNameAsVariable false
set_option linter.unusedVariables false
namespace Go.M
open Go Go.Eng Go.RowKit
set_option linter.all false
set_option linter.constructorNameAsVariable false
set_option maxRecDepth 100000
attribute [local irreducible] evCode owes Owed

def m_ring_New_l122 (vs : List Value) (w0 : World) (next : List Value → World → Prop) (out : Nat × List Value → World → Prop) : Prop :=
  match vs with
  | [.pointer (some r13), .int .i64 n14, .int .i64 n15] => (if (decide (n15 < n14)) = true then ∃ (sA16 : Option Addr) (sL17 : Nat) (sC18 : Nat), World.cell? w0 (r13.add 2) = some (.slice sA16 sL17 sC18) ∧ Ix sA16 sL17 n15 fun a19 => CallsV P 106 #[(.pointer (some ((a19.add (Int.toNat n15 * 2)).add 0))), (.int .u64 (IntKind.wrap .u64 (n15)))] w0 fun v20 w21 => v20 = (.tuple #[]) ∧ next [(.pointer (some r13)), (.int .i64 n14), (.int .i64 (IntKind.wrap .i64 (n15 + 1)))] w21 else out (0, [(.pointer (some r13))]) w0)
  | _ => False

def m_ring_New_l122_o (y : Nat × List Value) (k0 : Addr → Prop) : Prop :=
  match y with
  | (0, [.pointer (some r22)]) => k0 r22
  | _ => False

def m_ring_New_c3 (vs : List Value) (w0 : World) (out : Nat × List Value → World → Prop) : Prop :=
  match vs with
  | [.int .i64 capacity2] => Run P (Instr.makeSlice 214 (.int .i64 capacity2) (.int .i64 capacity2)) w0 fun v3 w4 => ∃ (sA5 : Option Addr) (sL6 : Nat) (sC7 : Nat), v3 = (.slice sA5 sL6 sC7) ∧ Al #[(.int .u64 0), (.int .u64 0), (.slice sA5 sL6 sC7)] 218 w4 fun b8 w9 => ∃ (sA10 : Option Addr) (sL11 : Nat) (sC12 : Nat), World.cell? w9 ((⟨b8, 0, none⟩ : Addr).add 2) = some (.slice sA10 sL11 sC12) ∧ LoopP m_ring_New_l122 [(.pointer (some (⟨b8, 0, none⟩ : Addr))), (.int .i64 ((sL11 : Nat) : Int)), (.int .i64 0)] w9 fun y24 w23 => m_ring_New_l122_o y24 (fun r25 => out (0, [(.pointer (some r25)), (.int .i64 0)]) w23)
  | _ => False

def m_ring_New_c3_o (y : Nat × List Value) (k0 : Option Addr → Int → Prop) : Prop :=
  match y with
  | (0, [.pointer p26, .int .i64 n27]) => k0 p26 n27
  | _ => False

/-- overfall/ring.New -/
def m_ring_New (capacity1 : Int) (w0 : World) (K : Value → World → Prop) : Prop :=
  (if (decide (capacity1 < 2)) = true then K (.tuple #[(.pointer none), (.int .i64 1)]) w0 else (if (decide (64 < capacity1)) = true then K (.tuple #[(.pointer none), (.int .i64 1)]) w0 else (if (!decide ((IntKind.wrap .i64 ((BitVec.ofInt (IntKind.bits .i64) capacity1 &&& BitVec.ofInt (IntKind.bits .i64) (IntKind.wrap .i64 (capacity1 - 1))).toNat)) = 0)) = true then K (.tuple #[(.pointer none), (.int .i64 1)]) w0 else m_ring_New_c3 [(.int .i64 capacity1)] w0 fun y29 w28 => m_ring_New_c3_o y29 (fun p30 n31 => K (.tuple #[(.pointer p30), (.int .i64 n31)]) w28))))

theorem func_58 : P.funcs[58]? = some (fnOf 58) := by kernel_rfl
theorem body_58 : (fnOf 58).body = some (bodyOf 58) := by kernel_rfl
def m_ring_New_c3_p (y : Nat × List Value) (k : Nat × List Value → Prop) : Prop := m_ring_New_c3_o y (fun p26 n27 => k (0, [(.pointer p26), (.int .i64 n27)]))
theorem m_ring_New_c3_pok : ∀ y k, m_ring_New_c3_p y k → k y := by
  intro y k h
  unfold m_ring_New_c3_p m_ring_New_c3_o at h
  split at h <;> first | exact h | exact h.elim
def m_ring_New_l122_p (y : Nat × List Value) (k : Nat × List Value → Prop) : Prop := m_ring_New_l122_o y (fun r22 => k (0, [(.pointer (some r22))]))
theorem m_ring_New_l122_pok : ∀ y k, m_ring_New_l122_p y k → k y := by
  intro y k h
  unfold m_ring_New_l122_p m_ring_New_l122_o at h
  split at h <;> first | exact h | exact h.elim
def m_ring_New_c3_E : Env → World → Kont → Prop := (fun e w k => takeK 43 [0] e fun vs => m_ring_New_c3 vs w fun y w => m_ring_New_c3_p y fun y => outK 43 [(.ret, [2, 3])] k y w)
def m_ring_New_l122_E : Env → World → Kont → Prop := (fun e w k => takeK 43 [4, 27, 28] e fun vs => LoopP m_ring_New_l122 vs w fun y w => m_ring_New_l122_p y fun y => outK 43 [(.exit 0, [4])] k y w)
def O_m_ring_New : Orac := { loop := fun p => cond (Nat.beq p 122) m_ring_New_l122_E ((fun _ _ _ => False)), cut := fun p => cond (Nat.beq p 3) (some m_ring_New_c3_E) (none) }
theorem m_ring_New_l122_owed : Owed P O_m_ring_New (loopBody (codeAt (bodyOf 58) [true, true, true, false, true, false])) 244 := owed_of (cast (by kernel_rfl) True.intro)
theorem m_ring_New_l122_ok : Sound P (.loop (loopBody (codeAt (bodyOf 58) [true, true, true, false, true, false]))) m_ring_New_l122_E := by
  refine loop_sound (evCode_sound W2 O_m_ring_New (loopBody (codeAt (bodyOf 58) [true, true, true, false, true, false])) 244 m_ring_New_l122_owed) 43 [4, 27, 28] [(.exit 0, [4])] m_ring_New_l122 ?_ m_ring_New_l122_p m_ring_New_l122_pok
  intro vs w next out h
  unfold m_ring_New_l122 at h
  split at h
  · exact cast (by kernel_rfl) h
  · exact h.elim
theorem m_ring_New_c3_owed : Owed P O_m_ring_New (codeAt (bodyOf 58) [true, true]) 7 := owed_of (cast (by kernel_rfl) m_ring_New_l122_ok)
theorem m_ring_New_c3_ok : Sound P (codeAt (bodyOf 58) [true, true]) m_ring_New_c3_E := by
  refine piece_sound (evCode_sound W2 O_m_ring_New (codeAt (bodyOf 58) [true, true]) 7 m_ring_New_c3_owed) 43 [0] [(.ret, [2, 3])] m_ring_New_c3 ?_ m_ring_New_c3_p m_ring_New_c3_pok
  intro vs w out h
  unfold m_ring_New_c3 at h
  split at h
  · exact cast (by kernel_rfl) h
  · exact h.elim
theorem m_ring_New_owed : Owed P O_m_ring_New (bodyOf 58) 1 := owed_of (cast (by kernel_rfl) m_ring_New_c3_ok)
theorem m_ring_New_eq (capacity1 : Int) (w0 : World) (K : Value → World → Prop) : m_ring_New capacity1 w0 K = evCode T0 P O_m_ring_New (bodyOf 58) 1 (env0 (Array.toList #[(.int .i64 capacity1)]) (fnOf 58).ntmps) w0 (endK T0 (fnOf 58).results.toList K) := by kernel_rfl
theorem m_ring_New_ok {capacity1 : Int} {w0 : World} {K : Value → World → Prop} (h : m_ring_New capacity1 w0 K) : CallsV P 58 #[(.int .i64 capacity1)] w0 K :=
  func_sound W2 func_58 body_58 m_ring_New_owed (Eq.mp (m_ring_New_eq capacity1 w0 K) h)


/-- (*overfall/ring.Ring).Cap -/
def m_ring_Ring_Cap (r1 : Option Addr) (w0 : World) (K : Value → World → Prop) : Prop :=
  (if (Option.isNone r1) = true then K (.int .i64 0) w0 else Nn r1 fun r2 => ∃ (sA3 : Option Addr) (sL4 : Nat) (sC5 : Nat), World.cell? w0 (r2.add 2) = some (.slice sA3 sL4 sC5) ∧ K (.int .i64 ((sL4 : Nat) : Int)) w0)

theorem func_112 : P.funcs[112]? = some (fnOf 112) := by kernel_rfl
theorem body_112 : (fnOf 112).body = some (bodyOf 112) := by kernel_rfl
theorem m_ring_Ring_Cap_owed : Owed P O0 (bodyOf 112) 1 := owed_of (cast (by kernel_rfl) True.intro)
theorem m_ring_Ring_Cap_eq (r1 : Option Addr) (w0 : World) (K : Value → World → Prop) : m_ring_Ring_Cap r1 w0 K = evCode T0 P O0 (bodyOf 112) 1 (env0 (Array.toList #[(.pointer r1)]) (fnOf 112).ntmps) w0 (endK T0 (fnOf 112).results.toList K) := by kernel_rfl
theorem m_ring_Ring_Cap_ok {r1 : Option Addr} {w0 : World} {K : Value → World → Prop} (h : m_ring_Ring_Cap r1 w0 K) : CallsV P 112 #[(.pointer r1)] w0 K :=
  func_sound W2 func_112 body_112 m_ring_Ring_Cap_owed (Eq.mp (m_ring_Ring_Cap_eq r1 w0 K) h)


/-- (*overfall/ring.Ring).Tail -/
def m_ring_Ring_Tail (r1 : Option Addr) (w0 : World) (K : Value → World → Prop) : Prop :=
  (if (Option.isNone r1) = true then K (.int .u64 0) w0 else Nn r1 fun r2 => CallsV P 122 #[(.pointer (some (r2.add 0)))] w0 fun v3 w4 => ∃ (n5 : Int), v3 = (.int .u64 n5) ∧ K (.int .u64 n5) w4)

theorem func_76 : P.funcs[76]? = some (fnOf 76) := by kernel_rfl
theorem body_76 : (fnOf 76).body = some (bodyOf 76) := by kernel_rfl
theorem m_ring_Ring_Tail_owed : Owed P O0 (bodyOf 76) 1 := owed_of (cast (by kernel_rfl) True.intro)
theorem m_ring_Ring_Tail_eq (r1 : Option Addr) (w0 : World) (K : Value → World → Prop) : m_ring_Ring_Tail r1 w0 K = evCode T0 P O0 (bodyOf 76) 1 (env0 (Array.toList #[(.pointer r1)]) (fnOf 76).ntmps) w0 (endK T0 (fnOf 76).results.toList K) := by kernel_rfl
theorem m_ring_Ring_Tail_ok {r1 : Option Addr} {w0 : World} {K : Value → World → Prop} (h : m_ring_Ring_Tail r1 w0 K) : CallsV P 76 #[(.pointer r1)] w0 K :=
  func_sound W2 func_76 body_76 m_ring_Ring_Tail_owed (Eq.mp (m_ring_Ring_Tail_eq r1 w0 K) h)


/-- (*overfall/ring.Ring).Head -/
def m_ring_Ring_Head (r1 : Option Addr) (w0 : World) (K : Value → World → Prop) : Prop :=
  (if (Option.isNone r1) = true then K (.int .u64 0) w0 else Nn r1 fun r2 => CallsV P 122 #[(.pointer (some (r2.add 1)))] w0 fun v3 w4 => ∃ (n5 : Int), v3 = (.int .u64 n5) ∧ K (.int .u64 n5) w4)

theorem func_77 : P.funcs[77]? = some (fnOf 77) := by kernel_rfl
theorem body_77 : (fnOf 77).body = some (bodyOf 77) := by kernel_rfl
theorem m_ring_Ring_Head_owed : Owed P O0 (bodyOf 77) 1 := owed_of (cast (by kernel_rfl) True.intro)
theorem m_ring_Ring_Head_eq (r1 : Option Addr) (w0 : World) (K : Value → World → Prop) : m_ring_Ring_Head r1 w0 K = evCode T0 P O0 (bodyOf 77) 1 (env0 (Array.toList #[(.pointer r1)]) (fnOf 77).ntmps) w0 (endK T0 (fnOf 77).results.toList K) := by kernel_rfl
theorem m_ring_Ring_Head_ok {r1 : Option Addr} {w0 : World} {K : Value → World → Prop} (h : m_ring_Ring_Head r1 w0 K) : CallsV P 77 #[(.pointer r1)] w0 K :=
  func_sound W2 func_77 body_77 m_ring_Ring_Head_owed (Eq.mp (m_ring_Ring_Head_eq r1 w0 K) h)


/-- (*overfall/ring.Ring).Join -/
def m_ring_Ring_Join (r1 : Option Addr) (v2 : Int) (w0 : World) (K : Value → World → Prop) : Prop :=
  (if (Option.isNone r1) = true then K (.pointer none) w0 else Al #[(.pointer r1), (.bool false), (.int .i64 4), (.int .u64 0), (.int .u64 0), (.int .u64 v2), (.bool false)] 308 w0 fun b3 w4 => K (.pointer (some (⟨b3, 0, none⟩ : Addr))) w4)

theorem func_113 : P.funcs[113]? = some (fnOf 113) := by kernel_rfl
theorem body_113 : (fnOf 113).body = some (bodyOf 113) := by kernel_rfl
theorem m_ring_Ring_Join_owed : Owed P O0 (bodyOf 113) 1 := owed_of (cast (by kernel_rfl) True.intro)
theorem m_ring_Ring_Join_eq (r1 : Option Addr) (v2 : Int) (w0 : World) (K : Value → World → Prop) : m_ring_Ring_Join r1 v2 w0 K = evCode T0 P O0 (bodyOf 113) 1 (env0 (Array.toList #[(.pointer r1), (.int .u64 v2)]) (fnOf 113).ntmps) w0 (endK T0 (fnOf 113).results.toList K) := by kernel_rfl
theorem m_ring_Ring_Join_ok {r1 : Option Addr} {v2 : Int} {w0 : World} {K : Value → World → Prop} (h : m_ring_Ring_Join r1 v2 w0 K) : CallsV P 113 #[(.pointer r1), (.int .u64 v2)] w0 K :=
  func_sound W2 func_113 body_113 m_ring_Ring_Join_owed (Eq.mp (m_ring_Ring_Join_eq r1 v2 w0 K) h)


/-- (*overfall/ring.Ring).Push -/
def m_ring_Ring_Push (r1 : Option Addr) (v2 : Int) (w0 : World) (K : Value → World → Prop) : Prop :=
  (if (Option.isNone r1) = true then K (.pointer none) w0 else Al #[(.pointer r1), (.bool false), (.int .i64 0), (.int .u64 0), (.int .u64 0), (.int .u64 v2), (.bool false)] 308 w0 fun b3 w4 => K (.pointer (some (⟨b3, 0, none⟩ : Addr))) w4)

theorem func_114 : P.funcs[114]? = some (fnOf 114) := by kernel_rfl
theorem body_114 : (fnOf 114).body = some (bodyOf 114) := by kernel_rfl
theorem m_ring_Ring_Push_owed : Owed P O0 (bodyOf 114) 1 := owed_of (cast (by kernel_rfl) True.intro)
theorem m_ring_Ring_Push_eq (r1 : Option Addr) (v2 : Int) (w0 : World) (K : Value → World → Prop) : m_ring_Ring_Push r1 v2 w0 K = evCode T0 P O0 (bodyOf 114) 1 (env0 (Array.toList #[(.pointer r1), (.int .u64 v2)]) (fnOf 114).ntmps) w0 (endK T0 (fnOf 114).results.toList K) := by kernel_rfl
theorem m_ring_Ring_Push_ok {r1 : Option Addr} {v2 : Int} {w0 : World} {K : Value → World → Prop} (h : m_ring_Ring_Push r1 v2 w0 K) : CallsV P 114 #[(.pointer r1), (.int .u64 v2)] w0 K :=
  func_sound W2 func_114 body_114 m_ring_Ring_Push_owed (Eq.mp (m_ring_Ring_Push_eq r1 v2 w0 K) h)


/-- (*overfall/ring.Ring).Pop -/
def m_ring_Ring_Pop (r1 : Option Addr) (w0 : World) (K : Value → World → Prop) : Prop :=
  (if (Option.isNone r1) = true then K (.pointer none) w0 else Al #[(.pointer r1), (.bool true), (.int .i64 0), (.int .u64 0), (.int .u64 0), (.int .u64 0), (.bool false)] 308 w0 fun b2 w3 => K (.pointer (some (⟨b2, 0, none⟩ : Addr))) w3)

theorem func_119 : P.funcs[119]? = some (fnOf 119) := by kernel_rfl
theorem body_119 : (fnOf 119).body = some (bodyOf 119) := by kernel_rfl
theorem m_ring_Ring_Pop_owed : Owed P O0 (bodyOf 119) 1 := owed_of (cast (by kernel_rfl) True.intro)
theorem m_ring_Ring_Pop_eq (r1 : Option Addr) (w0 : World) (K : Value → World → Prop) : m_ring_Ring_Pop r1 w0 K = evCode T0 P O0 (bodyOf 119) 1 (env0 (Array.toList #[(.pointer r1)]) (fnOf 119).ntmps) w0 (endK T0 (fnOf 119).results.toList K) := by kernel_rfl
theorem m_ring_Ring_Pop_ok {r1 : Option Addr} {w0 : World} {K : Value → World → Prop} (h : m_ring_Ring_Pop r1 w0 K) : CallsV P 119 #[(.pointer r1)] w0 K :=
  func_sound W2 func_119 body_119 m_ring_Ring_Pop_owed (Eq.mp (m_ring_Ring_Pop_eq r1 w0 K) h)


/-- (*overfall/ring.Act).Step -/
def m_ring_Act_Step (a1 : Option Addr) (w0 : World) (K : Value → World → Prop) : Prop :=
  CallsV P 167 #[(.pointer a1)] w0 fun v2 w3 => ∃ (b4 : Bool), v2 = (.bool b4) ∧ (if b4 = true then K (.bool true) w3 else Nn a1 fun a5 => ∃ (n6 : Int), World.cell? w3 (a5.add 2) = some (.int .i64 n6) ∧ (if (decide (n6 = 0)) = true then CallsV P 168 #[(.pointer a1)] w3 fun v7 w8 => v7 = (.tuple #[]) ∧ CallsV P 167 #[(.pointer a1)] w8 fun v9 w10 => ∃ (b11 : Bool), v9 = (.bool b11) ∧ K (.bool b11) w10 else (if (decide (n6 = 1)) = true then CallsV P 169 #[(.pointer a1)] w3 fun v12 w13 => v12 = (.tuple #[]) ∧ CallsV P 167 #[(.pointer a1)] w13 fun v14 w15 => ∃ (b16 : Bool), v14 = (.bool b16) ∧ K (.bool b16) w15 else (if (decide (n6 = 2)) = true then CallsV P 170 #[(.pointer a1)] w3 fun v17 w18 => v17 = (.tuple #[]) ∧ CallsV P 167 #[(.pointer a1)] w18 fun v19 w20 => ∃ (b21 : Bool), v19 = (.bool b21) ∧ K (.bool b21) w20 else (if (decide (n6 = 4)) = true then Nn a1 fun a22 => ∃ (p23 : Option Addr), World.cell? w3 (a22.add 0) = some (.pointer p23) ∧ Nn p23 fun p24 => CallsV P 171 #[(.pointer (some (p24.add 0))), (.int .u64 1)] w3 fun v25 w26 => ∃ (n27 : Int), v25 = (.int .u64 n27) ∧ Nn a1 fun a28 => St ((a28.add 4).add 0) (.int .u64 (IntKind.wrap .u64 (n27 - 1))) w26 fun w29 => Nn a1 fun a30 => St ((a30.add 2).add 0) (.int .i64 3) w29 fun w31 => CallsV P 167 #[(.pointer a1)] w31 fun v32 w33 => ∃ (b34 : Bool), v32 = (.bool b34) ∧ K (.bool b34) w33 else (if (decide (n6 = 3)) = true then CallsV P 172 #[(.pointer a1)] w3 fun v35 w36 => v35 = (.tuple #[]) ∧ CallsV P 167 #[(.pointer a1)] w36 fun v37 w38 => ∃ (b39 : Bool), v37 = (.bool b39) ∧ K (.bool b39) w38 else CallsV P 167 #[(.pointer a1)] w3 fun v40 w41 => ∃ (b42 : Bool), v40 = (.bool b42) ∧ K (.bool b42) w41))))))

theorem func_115 : P.funcs[115]? = some (fnOf 115) := by kernel_rfl
theorem body_115 : (fnOf 115).body = some (bodyOf 115) := by kernel_rfl
theorem m_ring_Act_Step_owed : Owed P O0 (bodyOf 115) 1 := owed_of (cast (by kernel_rfl) True.intro)
theorem m_ring_Act_Step_eq (a1 : Option Addr) (w0 : World) (K : Value → World → Prop) : m_ring_Act_Step a1 w0 K = evCode T0 P O0 (bodyOf 115) 1 (env0 (Array.toList #[(.pointer a1)]) (fnOf 115).ntmps) w0 (endK T0 (fnOf 115).results.toList K) := by kernel_rfl
theorem m_ring_Act_Step_ok {a1 : Option Addr} {w0 : World} {K : Value → World → Prop} (h : m_ring_Act_Step a1 w0 K) : CallsV P 115 #[(.pointer a1)] w0 K :=
  func_sound W2 func_115 body_115 m_ring_Act_Step_owed (Eq.mp (m_ring_Act_Step_eq a1 w0 K) h)


/-- (*overfall/ring.Act).OK -/
def m_ring_Act_OK (a1 : Option Addr) (w0 : World) (K : Value → World → Prop) : Prop :=
  (if (!Option.isNone a1) = true then Nn a1 fun a2 => ∃ (b3 : Bool), World.cell? w0 (a2.add 6) = some (.bool b3) ∧ K (.bool b3) w0 else K (.bool false) w0)

theorem func_116 : P.funcs[116]? = some (fnOf 116) := by kernel_rfl
theorem body_116 : (fnOf 116).body = some (bodyOf 116) := by kernel_rfl
theorem m_ring_Act_OK_owed : Owed P O0 (bodyOf 116) 1 := owed_of (cast (by kernel_rfl) True.intro)
theorem m_ring_Act_OK_eq (a1 : Option Addr) (w0 : World) (K : Value → World → Prop) : m_ring_Act_OK a1 w0 K = evCode T0 P O0 (bodyOf 116) 1 (env0 (Array.toList #[(.pointer a1)]) (fnOf 116).ntmps) w0 (endK T0 (fnOf 116).results.toList K) := by kernel_rfl
theorem m_ring_Act_OK_ok {a1 : Option Addr} {w0 : World} {K : Value → World → Prop} (h : m_ring_Act_OK a1 w0 K) : CallsV P 116 #[(.pointer a1)] w0 K :=
  func_sound W2 func_116 body_116 m_ring_Act_OK_owed (Eq.mp (m_ring_Act_OK_eq a1 w0 K) h)


/-- (*overfall/ring.Act).Value -/
def m_ring_Act_Value (a1 : Option Addr) (w0 : World) (K : Value → World → Prop) : Prop :=
  (if (Option.isNone a1) = true then K (.int .u64 0) w0 else Nn a1 fun a2 => ∃ (b3 : Bool), World.cell? w0 (a2.add 1) = some (.bool b3) ∧ (if (!b3) = true then K (.int .u64 0) w0 else Nn a1 fun a4 => ∃ (b5 : Bool), World.cell? w0 (a4.add 6) = some (.bool b5) ∧ (if (!b5) = true then K (.int .u64 0) w0 else Nn a1 fun a6 => ∃ (n7 : Int), World.cell? w0 (a6.add 5) = some (.int .u64 n7) ∧ K (.int .u64 n7) w0)))

theorem func_120 : P.funcs[120]? = some (fnOf 120) := by kernel_rfl
theorem body_120 : (fnOf 120).body = some (bodyOf 120) := by kernel_rfl
theorem m_ring_Act_Value_owed : Owed P O0 (bodyOf 120) 1 := owed_of (cast (by kernel_rfl) True.intro)
theorem m_ring_Act_Value_eq (a1 : Option Addr) (w0 : World) (K : Value → World → Prop) : m_ring_Act_Value a1 w0 K = evCode T0 P O0 (bodyOf 120) 1 (env0 (Array.toList #[(.pointer a1)]) (fnOf 120).ntmps) w0 (endK T0 (fnOf 120).results.toList K) := by kernel_rfl
theorem m_ring_Act_Value_ok {a1 : Option Addr} {w0 : World} {K : Value → World → Prop} (h : m_ring_Act_Value a1 w0 K) : CallsV P 120 #[(.pointer a1)] w0 K :=
  func_sound W2 func_120 body_120 m_ring_Act_Value_owed (Eq.mp (m_ring_Act_Value_eq a1 w0 K) h)


/-- (*overfall/ring.Act).Ended -/
def m_ring_Act_Ended (a1 : Option Addr) (w0 : World) (K : Value → World → Prop) : Prop :=
  (if (Option.isNone a1) = true then K (.bool true) w0 else Nn a1 fun a2 => ∃ (n3 : Int), World.cell? w0 (a2.add 2) = some (.int .i64 n3) ∧ K (.bool (decide (n3 = 5))) w0)

theorem func_167 : P.funcs[167]? = some (fnOf 167) := by kernel_rfl
theorem body_167 : (fnOf 167).body = some (bodyOf 167) := by kernel_rfl
theorem m_ring_Act_Ended_owed : Owed P O0 (bodyOf 167) 1 := owed_of (cast (by kernel_rfl) True.intro)
theorem m_ring_Act_Ended_eq (a1 : Option Addr) (w0 : World) (K : Value → World → Prop) : m_ring_Act_Ended a1 w0 K = evCode T0 P O0 (bodyOf 167) 1 (env0 (Array.toList #[(.pointer a1)]) (fnOf 167).ntmps) w0 (endK T0 (fnOf 167).results.toList K) := by kernel_rfl
theorem m_ring_Act_Ended_ok {a1 : Option Addr} {w0 : World} {K : Value → World → Prop} (h : m_ring_Act_Ended a1 w0 K) : CallsV P 167 #[(.pointer a1)] w0 K :=
  func_sound W2 func_167 body_167 m_ring_Act_Ended_owed (Eq.mp (m_ring_Act_Ended_eq a1 w0 K) h)


/-- (*overfall/ring.Act).read -/
def m_ring_Act_read (a1 : Option Addr) (w0 : World) (K : Value → World → Prop) : Prop :=
  Nn a1 fun a2 => St ((a2.add 2).add 0) (.int .i64 1) w0 fun w3 => Nn a1 fun a4 => ∃ (b5 : Bool), World.cell? w3 (a4.add 1) = some (.bool b5) ∧ (if b5 = true then Nn a1 fun a6 => ∃ (p7 : Option Addr), World.cell? w3 (a6.add 0) = some (.pointer p7) ∧ Nn p7 fun p8 => CallsV P 122 #[(.pointer (some (p8.add 1)))] w3 fun v9 w10 => ∃ (n11 : Int), v9 = (.int .u64 n11) ∧ Nn a1 fun a12 => St ((a12.add 3).add 0) (.int .u64 n11) w10 fun w13 => K (.tuple #[]) w13 else Nn a1 fun a14 => ∃ (p15 : Option Addr), World.cell? w3 (a14.add 0) = some (.pointer p15) ∧ Nn p15 fun p16 => CallsV P 122 #[(.pointer (some (p16.add 0)))] w3 fun v17 w18 => ∃ (n19 : Int), v17 = (.int .u64 n19) ∧ Nn a1 fun a20 => St ((a20.add 3).add 0) (.int .u64 n19) w18 fun w21 => K (.tuple #[]) w21)

theorem func_168 : P.funcs[168]? = some (fnOf 168) := by kernel_rfl
theorem body_168 : (fnOf 168).body = some (bodyOf 168) := by kernel_rfl
theorem m_ring_Act_read_owed : Owed P O0 (bodyOf 168) 1 := owed_of (cast (by kernel_rfl) True.intro)
theorem m_ring_Act_read_eq (a1 : Option Addr) (w0 : World) (K : Value → World → Prop) : m_ring_Act_read a1 w0 K = evCode T0 P O0 (bodyOf 168) 1 (env0 (Array.toList #[(.pointer a1)]) (fnOf 168).ntmps) w0 (endK T0 (fnOf 168).results.toList K) := by kernel_rfl
theorem m_ring_Act_read_ok {a1 : Option Addr} {w0 : World} {K : Value → World → Prop} (h : m_ring_Act_read a1 w0 K) : CallsV P 168 #[(.pointer a1)] w0 K :=
  func_sound W2 func_168 body_168 m_ring_Act_read_owed (Eq.mp (m_ring_Act_read_eq a1 w0 K) h)


def m_ring_Act_ask_c3 (vs : List Value) (w0 : World) (out : Nat × List Value → World → Prop) : Prop :=
  match vs with
  | [.pointer a6, .int .u64 want7] => Nn a6 fun a8 => ∃ (p9 : Option Addr), World.cell? (World.drew w0) (a8.add 0) = some (.pointer p9) ∧ Nn a6 fun a10 => ∃ (n11 : Int), World.cell? (World.drew w0) (a10.add 3) = some (.int .u64 n11) ∧ ∃ (p12 : Option Addr), QCall P 218 #[(.pointer p9), (.int .u64 n11)] (World.drew w0) (.pointer p12) ∧ Nn p12 fun p13 => ∃ (n14 : Int), QCall P 122 #[(.pointer (some (p13.add 0)))] (World.drew w0) (.int .u64 n14) ∧ ∀ w15 : World, Below (World.heap (World.drew w0)).size (World.drew w0) w15 → (if (decide ((IntKind.wrap .i64 (IntKind.wrap .u64 (n14 - want7))) = 0)) = true then Nn a6 fun a16 => St ((a16.add 2).add 0) (.int .i64 2) w15 fun w17 => out (0, []) w17 else (if (decide ((IntKind.wrap .i64 (IntKind.wrap .u64 (n14 - want7))) < 0)) = true then CallsV P 219 #[(.pointer a6), (.bool false)] w15 fun v18 w19 => v18 = (.tuple #[]) ∧ out (0, []) w19 else Nn a6 fun a20 => St ((a20.add 2).add 0) (.int .i64 0) w15 fun w21 => out (0, []) w21))
  | _ => False

def m_ring_Act_ask_c3_o (y : Nat × List Value) (k0 : Prop) : Prop :=
  match y with
  | (0, []) => k0
  | _ => False

/-- (*overfall/ring.Act).ask -/
def m_ring_Act_ask (a1 : Option Addr) (w0 : World) (K : Value → World → Prop) : Prop :=
  Nn a1 fun a2 => ∃ (n3 : Int), World.cell? w0 (a2.add 3) = some (.int .u64 n3) ∧ Nn a1 fun a4 => ∃ (b5 : Bool), World.cell? w0 (a4.add 1) = some (.bool b5) ∧ (if b5 = true then m_ring_Act_ask_c3 [(.pointer a1), (.int .u64 (IntKind.wrap .u64 (n3 + 1)))] w0 fun y23 w22 => m_ring_Act_ask_c3_o y23 (K (.tuple #[]) w22) else m_ring_Act_ask_c3 [(.pointer a1), (.int .u64 n3)] w0 fun y25 w24 => m_ring_Act_ask_c3_o y25 (K (.tuple #[]) w24))

theorem func_169 : P.funcs[169]? = some (fnOf 169) := by kernel_rfl
theorem body_169 : (fnOf 169).body = some (bodyOf 169) := by kernel_rfl
def m_ring_Act_ask_c3_p (y : Nat × List Value) (k : Nat × List Value → Prop) : Prop := m_ring_Act_ask_c3_o y (k (0, []))
theorem m_ring_Act_ask_c3_pok : ∀ y k, m_ring_Act_ask_c3_p y k → k y := by
  intro y k h
  unfold m_ring_Act_ask_c3_p m_ring_Act_ask_c3_o at h
  split at h <;> first | exact h | exact h.elim
def m_ring_Act_ask_c3_E : Env → World → Kont → Prop := (fun e w k => takeK 43 [0, 2] e fun vs => m_ring_Act_ask_c3 vs w fun y w => m_ring_Act_ask_c3_p y fun y => outK 43 [(.normal, [])] k y w)
def O_m_ring_Act_ask : Orac := { loop := fun p => (fun _ _ _ => False), cut := fun p => cond (Nat.beq p 3) (some m_ring_Act_ask_c3_E) (none) }
theorem m_ring_Act_ask_c3_owed : Owed P O_m_ring_Act_ask (codeAt (bodyOf 169) [true, true]) 7 := owed_of (cast (by kernel_rfl) True.intro)
theorem m_ring_Act_ask_c3_ok : Sound P (codeAt (bodyOf 169) [true, true]) m_ring_Act_ask_c3_E := by
  refine piece_sound (evCode_sound W2 O_m_ring_Act_ask (codeAt (bodyOf 169) [true, true]) 7 m_ring_Act_ask_c3_owed) 43 [0, 2] [(.normal, [])] m_ring_Act_ask_c3 ?_ m_ring_Act_ask_c3_p m_ring_Act_ask_c3_pok
  intro vs w out h
  unfold m_ring_Act_ask_c3 at h
  split at h
  · exact cast (by kernel_rfl) h
  · exact h.elim
theorem m_ring_Act_ask_owed : Owed P O_m_ring_Act_ask (bodyOf 169) 1 := owed_of (cast (by kernel_rfl) m_ring_Act_ask_c3_ok)
theorem m_ring_Act_ask_eq (a1 : Option Addr) (w0 : World) (K : Value → World → Prop) : m_ring_Act_ask a1 w0 K = evCode T0 P O_m_ring_Act_ask (bodyOf 169) 1 (env0 (Array.toList #[(.pointer a1)]) (fnOf 169).ntmps) w0 (endK T0 (fnOf 169).results.toList K) := by kernel_rfl
theorem m_ring_Act_ask_ok {a1 : Option Addr} {w0 : World} {K : Value → World → Prop} (h : m_ring_Act_ask a1 w0 K) : CallsV P 169 #[(.pointer a1)] w0 K :=
  func_sound W2 func_169 body_169 m_ring_Act_ask_owed (Eq.mp (m_ring_Act_ask_eq a1 w0 K) h)


def m_ring_Act_claim_c3 (vs : List Value) (w0 : World) (out : Nat × List Value → World → Prop) : Prop :=
  match vs with
  | [.pointer a10, .pointer (some end11)] => Nn a10 fun a12 => ∃ (n13 : Int), World.cell? (World.drew w0) (a12.add 3) = some (.int .u64 n13) ∧ Nn a10 fun a14 => ∃ (n15 : Int), World.cell? (World.drew w0) (a14.add 3) = some (.int .u64 n15) ∧ CallsV P 220 #[(.pointer (some end11)), (.int .u64 n13), (.int .u64 (IntKind.wrap .u64 (n15 + 1)))] (World.drew w0) fun v16 w17 => ∃ (b18 : Bool), v16 = (.bool b18) ∧ (if (!b18) = true then Nn a10 fun a19 => St ((a19.add 2).add 0) (.int .i64 0) w17 fun w20 => out (1, []) w20 else Nn a10 fun a21 => ∃ (n22 : Int), World.cell? w17 (a21.add 3) = some (.int .u64 n22) ∧ Nn a10 fun a23 => St ((a23.add 4).add 0) (.int .u64 n22) w17 fun w24 => Nn a10 fun a25 => St ((a25.add 2).add 0) (.int .i64 3) w24 fun w26 => out (0, []) w26)
  | _ => False

def m_ring_Act_claim_c3_o (y : Nat × List Value) (k0 : Prop) (k1 : Prop) : Prop :=
  match y with
  | (0, []) => k0
  | (1, []) => k1
  | _ => False

/-- (*overfall/ring.Act).claim -/
def m_ring_Act_claim (a1 : Option Addr) (w0 : World) (K : Value → World → Prop) : Prop :=
  Nn a1 fun a2 => ∃ (p3 : Option Addr), World.cell? w0 (a2.add 0) = some (.pointer p3) ∧ Nn p3 fun p4 => Nn a1 fun a5 => ∃ (b6 : Bool), World.cell? w0 (a5.add 1) = some (.bool b6) ∧ (if b6 = true then Nn a1 fun a7 => ∃ (p8 : Option Addr), World.cell? w0 (a7.add 0) = some (.pointer p8) ∧ Nn p8 fun p9 => m_ring_Act_claim_c3 [(.pointer a1), (.pointer (some (p9.add 1)))] w0 fun y28 w27 => m_ring_Act_claim_c3_o y28 (K (.tuple #[]) w27) (K (.tuple #[]) w27) else m_ring_Act_claim_c3 [(.pointer a1), (.pointer (some (p4.add 0)))] w0 fun y30 w29 => m_ring_Act_claim_c3_o y30 (K (.tuple #[]) w29) (K (.tuple #[]) w29))

theorem func_170 : P.funcs[170]? = some (fnOf 170) := by kernel_rfl
theorem body_170 : (fnOf 170).body = some (bodyOf 170) := by kernel_rfl
def m_ring_Act_claim_c3_p (y : Nat × List Value) (k : Nat × List Value → Prop) : Prop := m_ring_Act_claim_c3_o y (k (0, [])) (k (1, []))
theorem m_ring_Act_claim_c3_pok : ∀ y k, m_ring_Act_claim_c3_p y k → k y := by
  intro y k h
  unfold m_ring_Act_claim_c3_p m_ring_Act_claim_c3_o at h
  split at h <;> first | exact h | exact h.elim
def m_ring_Act_claim_c3_E : Env → World → Kont → Prop := (fun e w k => takeK 44 [0, 2] e fun vs => m_ring_Act_claim_c3 vs w fun y w => m_ring_Act_claim_c3_p y fun y => outK 44 [(.normal, []), (.ret, [])] k y w)
def O_m_ring_Act_claim : Orac := { loop := fun p => (fun _ _ _ => False), cut := fun p => cond (Nat.beq p 3) (some m_ring_Act_claim_c3_E) (none) }
theorem m_ring_Act_claim_c3_owed : Owed P O_m_ring_Act_claim (codeAt (bodyOf 170) [true, true]) 7 := owed_of (cast (by kernel_rfl) True.intro)
theorem m_ring_Act_claim_c3_ok : Sound P (codeAt (bodyOf 170) [true, true]) m_ring_Act_claim_c3_E := by
  refine piece_sound (evCode_sound W2 O_m_ring_Act_claim (codeAt (bodyOf 170) [true, true]) 7 m_ring_Act_claim_c3_owed) 44 [0, 2] [(.normal, []), (.ret, [])] m_ring_Act_claim_c3 ?_ m_ring_Act_claim_c3_p m_ring_Act_claim_c3_pok
  intro vs w out h
  unfold m_ring_Act_claim_c3 at h
  split at h
  · exact cast (by kernel_rfl) h
  · exact h.elim
theorem m_ring_Act_claim_owed : Owed P O_m_ring_Act_claim (bodyOf 170) 1 := owed_of (cast (by kernel_rfl) m_ring_Act_claim_c3_ok)
theorem m_ring_Act_claim_eq (a1 : Option Addr) (w0 : World) (K : Value → World → Prop) : m_ring_Act_claim a1 w0 K = evCode T0 P O_m_ring_Act_claim (bodyOf 170) 1 (env0 (Array.toList #[(.pointer a1)]) (fnOf 170).ntmps) w0 (endK T0 (fnOf 170).results.toList K) := by kernel_rfl
theorem m_ring_Act_claim_ok {a1 : Option Addr} {w0 : World} {K : Value → World → Prop} (h : m_ring_Act_claim a1 w0 K) : CallsV P 170 #[(.pointer a1)] w0 K :=
  func_sound W2 func_170 body_170 m_ring_Act_claim_owed (Eq.mp (m_ring_Act_claim_eq a1 w0 K) h)


/-- (*overfall/ring.Act).take -/
def m_ring_Act_take (a1 : Option Addr) (w0 : World) (K : Value → World → Prop) : Prop :=
  Nn a1 fun a2 => ∃ (p3 : Option Addr), World.cell? (World.drew w0) (a2.add 0) = some (.pointer p3) ∧ Nn a1 fun a4 => ∃ (n5 : Int), World.cell? (World.drew w0) (a4.add 4) = some (.int .u64 n5) ∧ ∃ (p6 : Option Addr), QCall P 218 #[(.pointer p3), (.int .u64 n5)] (World.drew w0) (.pointer p6) ∧ ∀ w7 : World, Below (World.heap (World.drew w0)).size (World.drew w0) w7 → Nn a1 fun a8 => ∃ (b9 : Bool), World.cell? w7 (a8.add 1) = some (.bool b9) ∧ (if b9 = true then Nn p6 fun p10 => ∃ (n11 : Int), World.cell? w7 (p10.add 1) = some (.int .u64 n11) ∧ Nn a1 fun a12 => St ((a12.add 5).add 0) (.int .u64 n11) w7 fun w13 => Nn p6 fun p14 => Nn a1 fun a15 => ∃ (n16 : Int), World.cell? (World.drew w13) (a15.add 4) = some (.int .u64 n16) ∧ Nn a1 fun a17 => ∃ (p18 : Option Addr), World.cell? (World.drew w13) (a17.add 0) = some (.pointer p18) ∧ Nn p18 fun p19 => ∃ (sA20 : Option Addr) (sL21 : Nat) (sC22 : Nat), World.cell? (World.drew w13) (p19.add 2) = some (.slice sA20 sL21 sC22) ∧ CallsV P 106 #[(.pointer (some (p14.add 0))), (.int .u64 (IntKind.wrap .u64 (n16 + (IntKind.wrap .u64 (((sL21 : Nat) : Int))))))] (World.drew w13) fun v23 w24 => v23 = (.tuple #[]) ∧ CallsV P 219 #[(.pointer a1), (.bool true)] w24 fun v25 w26 => v25 = (.tuple #[]) ∧ K (.tuple #[]) w26 else Nn a1 fun a27 => ∃ (n28 : Int), World.cell? w7 (a27.add 5) = some (.int .u64 n28) ∧ Nn p6 fun p29 => St ((p29.add 1).add 0) (.int .u64 n28) w7 fun w30 => Nn p6 fun p31 => Nn a1 fun a32 => ∃ (n33 : Int), World.cell? (World.drew w30) (a32.add 4) = some (.int .u64 n33) ∧ CallsV P 106 #[(.pointer (some (p31.add 0))), (.int .u64 (IntKind.wrap .u64 (n33 + 1)))] (World.drew w30) fun v34 w35 => v34 = (.tuple #[]) ∧ CallsV P 219 #[(.pointer a1), (.bool true)] w35 fun v36 w37 => v36 = (.tuple #[]) ∧ K (.tuple #[]) w37)

theorem func_172 : P.funcs[172]? = some (fnOf 172) := by kernel_rfl
theorem body_172 : (fnOf 172).body = some (bodyOf 172) := by kernel_rfl
theorem m_ring_Act_take_owed : Owed P O0 (bodyOf 172) 1 := owed_of (cast (by kernel_rfl) True.intro)
theorem m_ring_Act_take_eq (a1 : Option Addr) (w0 : World) (K : Value → World → Prop) : m_ring_Act_take a1 w0 K = evCode T0 P O0 (bodyOf 172) 1 (env0 (Array.toList #[(.pointer a1)]) (fnOf 172).ntmps) w0 (endK T0 (fnOf 172).results.toList K) := by kernel_rfl
theorem m_ring_Act_take_ok {a1 : Option Addr} {w0 : World} {K : Value → World → Prop} (h : m_ring_Act_take a1 w0 K) : CallsV P 172 #[(.pointer a1)] w0 K :=
  func_sound W2 func_172 body_172 m_ring_Act_take_owed (Eq.mp (m_ring_Act_take_eq a1 w0 K) h)


/-- (*overfall/ring.Ring).slot -/
def m_ring_Ring_slot (r1 : Option Addr) (place2 : Int) (w0 : World) (K : Value → World → Prop) : Prop :=
  Nn r1 fun r3 => ∃ (sA4 : Option Addr) (sL5 : Nat) (sC6 : Nat), World.cell? (World.drew w0) (r3.add 2) = some (.slice sA4 sL5 sC6) ∧ Nn r1 fun r7 => ∃ (sA8 : Option Addr) (sL9 : Nat) (sC10 : Nat), World.cell? (World.drew w0) (r7.add 2) = some (.slice sA8 sL9 sC10) ∧ (if (IntKind.wrap .u64 (((sL9 : Nat) : Int))) = 0 then False else Ix sA4 sL5 (Int.tmod place2 (IntKind.wrap .u64 (((sL9 : Nat) : Int)))) fun a11 => K (.pointer (some (a11.add (Int.toNat (Int.tmod place2 (IntKind.wrap .u64 (((sL9 : Nat) : Int)))) * 2)))) (World.drew w0))

theorem func_218 : P.funcs[218]? = some (fnOf 218) := by kernel_rfl
theorem body_218 : (fnOf 218).body = some (bodyOf 218) := by kernel_rfl
theorem m_ring_Ring_slot_owed : Owed P O0 (bodyOf 218) 1 := owed_of (cast (by kernel_rfl) True.intro)
theorem m_ring_Ring_slot_eq (r1 : Option Addr) (place2 : Int) (w0 : World) (K : Value → World → Prop) : m_ring_Ring_slot r1 place2 w0 K = evCode T0 P O0 (bodyOf 218) 1 (env0 (Array.toList #[(.pointer r1), (.int .u64 place2)]) (fnOf 218).ntmps) w0 (endK T0 (fnOf 218).results.toList K) := by kernel_rfl
theorem m_ring_Ring_slot_ok {r1 : Option Addr} {place2 : Int} {w0 : World} {K : Value → World → Prop} (h : m_ring_Ring_slot r1 place2 w0 K) : CallsV P 218 #[(.pointer r1), (.int .u64 place2)] w0 K :=
  func_sound W2 func_218 body_218 m_ring_Ring_slot_owed (Eq.mp (m_ring_Ring_slot_eq r1 place2 w0 K) h)


/-- (*overfall/ring.Act).end -/
def m_ring_Act_end (a1 : Option Addr) (well2 : Bool) (w0 : World) (K : Value → World → Prop) : Prop :=
  Nn a1 fun a3 => St ((a3.add 2).add 0) (.int .i64 5) w0 fun w4 => Nn a1 fun a5 => St ((a5.add 6).add 0) (.bool well2) w4 fun w6 => K (.tuple #[]) w6

theorem func_219 : P.funcs[219]? = some (fnOf 219) := by kernel_rfl
theorem body_219 : (fnOf 219).body = some (bodyOf 219) := by kernel_rfl
theorem m_ring_Act_end_owed : Owed P O0 (bodyOf 219) 1 := owed_of (cast (by kernel_rfl) True.intro)
theorem m_ring_Act_end_eq (a1 : Option Addr) (well2 : Bool) (w0 : World) (K : Value → World → Prop) : m_ring_Act_end a1 well2 w0 K = evCode T0 P O0 (bodyOf 219) 1 (env0 (Array.toList #[(.pointer a1), (.bool well2)]) (fnOf 219).ntmps) w0 (endK T0 (fnOf 219).results.toList K) := by kernel_rfl
theorem m_ring_Act_end_ok {a1 : Option Addr} {well2 : Bool} {w0 : World} {K : Value → World → Prop} (h : m_ring_Act_end a1 well2 w0 K) : CallsV P 219 #[(.pointer a1), (.bool well2)] w0 K :=
  func_sound W2 func_219 body_219 m_ring_Act_end_owed (Eq.mp (m_ring_Act_end_eq a1 well2 w0 K) h)


end Go.M

/- What the functions of the ring do. -/
set_option linter.all false
set_option linter.constructorNameAsVariable false
namespace Go.M
open Go Go.Eng Go.RowKit

variable {w : World} {K : Value → World → Prop} {pb sb ab : Nat} {r : RingM} {a : ActM}

theorem cap_ok (hr : RingAt w pb sb r) (hK : K (.int .i64 (r.n : Int)) w) : CallsV P 112 #[.pointer (some ⟨pb, 0, none⟩)] w K := by
  refine m_ring_Ring_Cap_ok ?_
  exact if_no (by simp) (nn_some (ld_slice hr.h_slots hK))
theorem tail_ok (hr : RingAt w pb sb r) (hK : K (.int .u64 r.tail) w) : CallsV P 76 #[.pointer (some ⟨pb, 0, none⟩)] w K := by
  refine m_ring_Ring_Tail_ok ?_
  exact if_no (by simp) (nn_some (loadU_ok hr.h_tail ⟨_, rfl, hK⟩))
theorem head_ok (hr : RingAt w pb sb r) (hK : K (.int .u64 r.head) w) : CallsV P 77 #[.pointer (some ⟨pb, 0, none⟩)] w K := by
  refine m_ring_Ring_Head_ok ?_
  exact if_no (by simp) (nn_some (loadU_ok (by simpa using hr.h_head) ⟨_, rfl, hK⟩))

def ActM.join (p : Option Addr) (v : Int) : ActM := ⟨p, false, 4, 0, 0, v, false⟩
def ActM.push (p : Option Addr) (v : Int) : ActM := ⟨p, false, 0, 0, 0, v, false⟩
def ActM.pop (p : Option Addr) : ActM := ⟨p, true, 0, 0, 0, 0, false⟩

theorem actJoin_ok {v : Int} (hK : ∀ w', Only [] w w' → w'.heap.size = w.heap.size + 1 → ActAt w' w.heap.size (ActM.join (some ⟨pb, 0, none⟩) v) → K (.pointer (some ⟨w.heap.size, 0, none⟩)) w') : CallsV P 113 #[.pointer (some ⟨pb, 0, none⟩), .int .u64 v] w K := by
  refine m_ring_Ring_Join_ok ?_
  refine if_no (by simp) (al_intro (hK _ (Only.alloc _ _) (by rw [World.size_alloc]) ?_))
  constructor <;> (try intro i) <;> simp [cell_new, frozen_new, ActM.join, World.size_alloc]
theorem actPush_ok {v : Int} (hK : ∀ w', Only [] w w' → w'.heap.size = w.heap.size + 1 → ActAt w' w.heap.size (ActM.push (some ⟨pb, 0, none⟩) v) → K (.pointer (some ⟨w.heap.size, 0, none⟩)) w') : CallsV P 114 #[.pointer (some ⟨pb, 0, none⟩), .int .u64 v] w K := by
  refine m_ring_Ring_Push_ok ?_
  refine if_no (by simp) (al_intro (hK _ (Only.alloc _ _) (by rw [World.size_alloc]) ?_))
  constructor <;> (try intro i) <;> simp [cell_new, frozen_new, ActM.push, World.size_alloc]
theorem actPop_ok (hK : ∀ w', Only [] w w' → w'.heap.size = w.heap.size + 1 → ActAt w' w.heap.size (ActM.pop (some ⟨pb, 0, none⟩)) → K (.pointer (some ⟨w.heap.size, 0, none⟩)) w') : CallsV P 119 #[.pointer (some ⟨pb, 0, none⟩)] w K := by
  refine m_ring_Ring_Pop_ok ?_
  refine if_no (by simp) (al_intro (hK _ (Only.alloc _ _) (by rw [World.size_alloc]) ?_))
  constructor <;> (try intro i) <;> simp [cell_new, frozen_new, ActM.pop, World.size_alloc]

theorem ended_ok (ha : ActAt w ab a) (hK : K (.bool (decide (a.next = 5))) w) : CallsV P 167 #[.pointer (some ⟨ab, 0, none⟩)] w K := by
  refine m_ring_Act_Ended_ok ?_
  exact if_no (by simp) (nn_some (ld_int (by simpa using ha.h_next) hK))
theorem actOK_ok (ha : ActAt w ab a) (hK : K (.bool a.well) w) : CallsV P 116 #[.pointer (some ⟨ab, 0, none⟩)] w K := by
  refine m_ring_Act_OK_ok ?_
  exact if_yes (by simp) (nn_some (ld_bool (by simpa using ha.h_well) hK))
theorem value_ok (ha : ActAt w ab a) (hp : a.pops = true) (hw : a.well = true) (hK : K (.int .u64 a.value) w) : CallsV P 120 #[.pointer (some ⟨ab, 0, none⟩)] w K := by
  refine m_ring_Act_Value_ok ?_
  exact if_no (by simp) (nn_some (ld_bool (n := a.pops) (by simpa using ha.h_pops) (if_no (by simp [hp]) (nn_some (ld_bool (n := a.well) (by simpa using ha.h_well) (if_no (by simp [hw]) (nn_some (ld_int (by simpa using ha.h_value) hK))))))))

theorem actEnd_ok (ha : ActAt w ab a) {b : Bool} (hK : ∀ w', Only [ab] w w' → ActAt w' ab { a with next := 5, well := b } → K (.tuple #[]) w') : CallsV P 219 #[.pointer (some ⟨ab, 0, none⟩), .bool b] w K := by
  refine m_ring_Act_end_ok ?_
  unfold m_ring_Act_end
  refine nn_some ?_
  simp only [addr_add, Nat.add_zero, Nat.zero_add]
  have s1 := ha.set_next 5
  have o1 := (Only.refl [ab] w).st (v := .int .i64 5) (.inl (by simp)) ha.h_next
  refine St_at ha.h_next (ha.z_pb _) (nn_some ?_)
  simp only [addr_add, Nat.add_zero, Nat.zero_add]
  exact St_at s1.h_well (s1.z_pb _) (hK _ (o1.st (.inl (by simp)) s1.h_well) (s1.set_well b))

/-- a slot's place -/
theorem slot_ok (hr : RingAt w pb sb r) (hn : 0 < r.n ∧ r.n ≤ 64) {p : Int} (hp : 0 ≤ p) (hK : K (.pointer (some ⟨sb, (p % r.n).toNat * 2, none⟩)) w.drew) : CallsV P 218 #[.pointer (some ⟨pb, 0, none⟩), .int .u64 p] w K := by
  refine m_ring_Ring_slot_ok ?_
  unfold m_ring_Ring_slot
  have hd := hr.drew
  have hm := Int.emod_nonneg p (show (r.n : Int) ≠ 0 by omega)
  have hm2 := Int.emod_lt_of_pos p (show (0 : Int) < r.n by omega)
  refine nn_some (ld_slice (p := some ⟨sb, 0, none⟩) (l := r.n) (c := r.n) (by simpa using hd.h_slots) (nn_some (ld_slice (p := some ⟨sb, 0, none⟩) (l := r.n) (c := r.n) (by simpa using hd.h_slots) ?_)))
  rw [IntWalk.u64_in _ (by omega)]
  refine if_no (by omega) ?_
  rw [Int.tmod_eq_emod_of_nonneg hp]
  exact ix_some hm hm2 (by simpa using hK)

theorem read_ok (hr : RingAt w pb sb r) (ha : ActAt w ab a) (hp : a.r = some ⟨pb, 0, none⟩) (h1 : ab ≠ pb) (hK : ∀ w', Only [ab] w w' → ActAt w' ab { a with next := 1, at_ := if a.pops = true then r.head else r.tail } → K (.tuple #[]) w') : CallsV P 168 #[.pointer (some ⟨ab, 0, none⟩)] w K := by
  refine m_ring_Act_read_ok ?_
  unfold m_ring_Act_read
  refine nn_some ?_
  simp only [addr_add, Nat.add_zero, Nat.zero_add]
  have s1 := ha.set_next 1
  have o1 := (Only.refl [ab] w).st (v := .int .i64 1) (.inl (by simp)) ha.h_next
  have e0 : World.cell? (w.setCell ⟨ab, 2, none⟩ (.int .i64 1)) ⟨pb, 0, none⟩ = some (.int .u64 r.tail) := (cell_set_ne (.inl (Ne.symm h1))).trans hr.h_tail
  have e1 : World.cell? (w.setCell ⟨ab, 2, none⟩ (.int .i64 1)) ⟨pb, 1, none⟩ = some (.int .u64 r.head) := (cell_set_ne (.inl (Ne.symm h1))).trans hr.h_head
  refine St_at ha.h_next (ha.z_pb _) (nn_some ?_)
  simp only [addr_add, Nat.add_zero, Nat.zero_add]
  refine ld_bool s1.h_pops ?_
  by_cases hb : a.pops = true
  · simp only [if_pos hb] at hK
    refine if_yes hb (nn_some (ld_ptr s1.h_r ?_))
    show Nn a.r _
    rw [hp]
    refine nn_some ?_
    simp only [addr_add, Nat.add_zero, Nat.zero_add]
    refine loadU_ok e1 ⟨_, rfl, nn_some ?_⟩
    simp only [addr_add, Nat.add_zero, Nat.zero_add]
    have s2 := s1.set_at_ r.head
    exact St_at s1.h_at_ (s1.z_pb _) (hK _ (o1.st (.inl (by simp)) s1.h_at_) s2)
  · simp only [if_neg hb] at hK
    refine if_no hb (nn_some (ld_ptr s1.h_r ?_))
    show Nn a.r _
    rw [hp]
    refine nn_some ?_
    simp only [addr_add, Nat.add_zero, Nat.zero_add]
    refine loadU_ok e0 ⟨_, rfl, nn_some ?_⟩
    simp only [addr_add, Nat.add_zero, Nat.zero_add]
    have s2 := s1.set_at_ r.tail
    exact St_at s1.h_at_ (s1.z_pb _) (hK _ (o1.st (.inl (by simp)) s1.h_at_) s2)

/-- what is asked of a slot: the difference, as a number with a sign -/
def askD (r : RingM) (a : ActM) : Int := IntKind.wrap .i64 (IntKind.wrap .u64 (r.number (a.at_ % r.n).toNat - (if a.pops = true then IntKind.wrap .u64 (a.at_ + 1) else a.at_)))

def ActM.ask (a : ActM) (r : RingM) : ActM := if askD r a = 0 then { a with next := 2 } else if askD r a < 0 then { a with next := 5, well := false } else { a with next := 0 }

theorem q_of {f : Nat} {args : Array Value} {v : Value} (h : ∀ w1, Below w.heap.size w w1 → ∀ K : Value → World → Prop, (∀ w', Only [] w1 w' → K v w') → CallsV P f args w1 K) : QCall P f args w v :=
  fun w1 hb => h w1 hb _ fun w' ho => ⟨rfl, ho.below⟩

/-- what grows keeps -/
theorem only_of_below {w1 : World} (h : Below w.heap.size w w1) : Only [] w w1 :=
  ⟨⟨h.os, h.tape, h.output⟩, h.size, fun b hb _ => h.block b hb, fun b o ho _ => (h.block b (Array.getElem?_eq_some_iff.1 ho).1).trans ho⟩

theorem ask3_ok (hr : RingAt w pb sb r) (ha : ActAt w ab a) (hp : a.r = some ⟨pb, 0, none⟩) (hn : 0 < r.n ∧ r.n ≤ 64) (hat : 0 ≤ a.at_) {want : Int}
    (hwant : want = if a.pops = true then IntKind.wrap .u64 (a.at_ + 1) else a.at_) {out : Nat × List Value → World → Prop}
    (hK : ∀ w', Only [ab] w w' → ActAt w' ab (a.ask r) → out (0, []) w') : m_ring_Act_ask_c3 [.pointer (some ⟨ab, 0, none⟩), .int .u64 want] w out := by
  unfold m_ring_Act_ask_c3
  have had := ha.drew
  have hrd := hr.drew
  have hm := Int.emod_nonneg a.at_ (show (r.n : Int) ≠ 0 by omega)
  have hm2 := Int.emod_lt_of_pos a.at_ (show (0 : Int) < r.n by omega)
  have hlt : (a.at_ % r.n).toNat < r.n := by omega
  refine nn_some (ld_ptr had.h_r (nn_some ?_))
  simp only [addr_add, Nat.add_zero, Nat.zero_add]
  refine ld_int had.h_at_ ⟨some ⟨sb, (a.at_ % r.n).toNat * 2, none⟩, ?_, nn_some ?_⟩
  · rw [hp]
    exact q_of fun w1 hb K h => slot_ok (hrd.only (only_of_below hb) (by simp) (by simp)) hn hat (h _ (Only.drew _))
  · simp only [addr_add, Nat.add_zero, Nat.zero_add]
    refine ⟨r.number (a.at_ % r.n).toNat, ?_, fun w1 hb => ?_⟩
    · exact q_of fun w1 hb K h => loadU_ok ((hrd.only (only_of_below hb) (by simp) (by simp)).c_number _ hlt) (h _ (Only.refl _ _))
    · have h1 := had.only (only_of_below hb) (by simp)
      have o1 : Only [ab] w w1 := (Only.drew w).trans ((only_of_below hb).mono (by simp))
      have hd : askD r a = IntKind.wrap .i64 (IntKind.wrap .u64 (r.number (a.at_ % r.n).toNat - want)) := by unfold askD; rw [hwant]
      rw [← hd]
      unfold ActM.ask at hK
      by_cases e0 : askD r a = 0
      · simp only [if_pos e0] at hK
        refine if_yes (by simpa using e0) (nn_some ?_)
        simp only [addr_add, Nat.add_zero, Nat.zero_add]
        exact St_at h1.h_next (h1.z_pb _) (hK _ (o1.st (.inl (by simp)) h1.h_next) (h1.set_next 2))
      · simp only [if_neg e0] at hK
        refine if_no (by simpa using e0) ?_
        by_cases e1 : askD r a < 0
        · simp only [if_pos e1] at hK
          exact if_yes (by simpa using e1) (actEnd_ok h1 fun w' ho h2 => ⟨rfl, hK _ (o1.trans ho) h2⟩)
        · simp only [if_neg e1] at hK
          refine if_no (by simpa using e1) (nn_some ?_)
          simp only [addr_add, Nat.add_zero, Nat.zero_add]
          exact St_at h1.h_next (h1.z_pb _) (hK _ (o1.st (.inl (by simp)) h1.h_next) (h1.set_next 0))

theorem ask_ok (hr : RingAt w pb sb r) (ha : ActAt w ab a) (hp : a.r = some ⟨pb, 0, none⟩) (hn : 0 < r.n ∧ r.n ≤ 64) (hat : 0 ≤ a.at_)
    (hK : ∀ w', Only [ab] w w' → ActAt w' ab (a.ask r) → K (.tuple #[]) w') : CallsV P 169 #[.pointer (some ⟨ab, 0, none⟩)] w K := by
  refine m_ring_Act_ask_ok ?_
  unfold m_ring_Act_ask
  refine nn_some (ld_int (n := a.at_) (by simpa using ha.h_at_) (nn_some (ld_bool (n := a.pops) (by simpa using ha.h_pops) ?_)))
  by_cases hb : a.pops = true
  · refine if_yes hb (ask3_ok hr ha hp hn hat (by rw [if_pos hb]) fun w' ho h => ?_)
    simpa [m_ring_Act_ask_c3_o] using hK w' ho h
  · refine if_no hb (ask3_ok hr ha hp hn hat (by rw [if_neg hb]) fun w' ho h => ?_)
    simpa [m_ring_Act_ask_c3_o] using hK w' ho h

/-- the ring and the act behind a claim -/
def claimR (r : RingM) (a : ActM) : RingM := if a.pops = true then (if r.head = a.at_ then { r with head := IntKind.wrap .u64 (a.at_ + 1) } else r) else (if r.tail = a.at_ then { r with tail := IntKind.wrap .u64 (a.at_ + 1) } else r)
def claimA (r : RingM) (a : ActM) : ActM := if (if a.pops = true then r.head else r.tail) = a.at_ then { a with place := a.at_, next := 3 } else { a with next := 0 }

theorem claim3_ok {ro : Nat} (ha : ActAt w ab a) (h1 : ab ≠ pb) {n : Int} (hc : w.cell? ⟨pb, ro, none⟩ = some (.int .u64 n)) (hz : w.frozen? ⟨pb, ro, none⟩ = false) {out : Nat × List Value → World → Prop}
    (hy : n = a.at_ → ∀ w', Only [ab] (w.drew.setCell ⟨pb, ro, none⟩ (.int .u64 (IntKind.wrap .u64 (a.at_ + 1)))) w' → ActAt w' ab { a with place := a.at_, next := 3 } → out (0, []) w')
    (hn : n ≠ a.at_ → ∀ w', Only [ab] w.drew w' → ActAt w' ab { a with next := 0 } → out (1, []) w') : m_ring_Act_claim_c3 [.pointer (some ⟨ab, 0, none⟩), .pointer (some ⟨pb, ro, none⟩)] w out := by
  unfold m_ring_Act_claim_c3
  have had := ha.drew
  refine nn_some ?_
  simp only [addr_add, Nat.add_zero, Nat.zero_add]
  refine ld_int had.h_at_ (nn_some ?_)
  simp only [addr_add, Nat.add_zero, Nat.zero_add]
  refine ld_int had.h_at_ (casU_ok (n := n) hc hz (fun e => ⟨_, rfl, if_no (by simp) (nn_some ?_)⟩) (fun e => ⟨_, rfl, if_yes (by simp) (nn_some ?_)⟩))
  · have o0 : Only [pb] w.drew (w.drew.setCell ⟨pb, ro, none⟩ (.int .u64 (IntKind.wrap .u64 (a.at_ + 1)))) := (Only.refl [pb] w.drew).st (.inl (by simp)) hc
    have h2 := had.only o0 (by simpa using h1)
    simp only [addr_add, Nat.add_zero, Nat.zero_add]
    refine ld_int h2.h_at_ (nn_some ?_)
    simp only [addr_add, Nat.add_zero, Nat.zero_add]
    have s1 := h2.set_place a.at_
    have o1 := (Only.refl [ab] _).st (v := .int .u64 a.at_) (.inl (by simp)) h2.h_place
    refine St_at h2.h_place (h2.z_pb _) (nn_some ?_)
    simp only [addr_add, Nat.add_zero, Nat.zero_add]
    exact St_at s1.h_next (s1.z_pb _) (hy e _ (o1.st (.inl (by simp)) s1.h_next) (s1.set_next 3))
  · simp only [addr_add, Nat.add_zero, Nat.zero_add]
    exact St_at had.h_next (had.z_pb _) (hn e _ ((Only.refl [ab] _).st (.inl (by simp)) had.h_next) (had.set_next 0))

theorem claim_ok (hr : RingAt w pb sb r) (ha : ActAt w ab a) (hp : a.r = some ⟨pb, 0, none⟩) (h1 : ab ≠ pb) (h2 : ab ≠ sb)
    (hK : ∀ w', Only [ab, pb] w w' → RingAt w' pb sb (claimR r a) → ActAt w' ab (claimA r a) → K (.tuple #[]) w') : CallsV P 170 #[.pointer (some ⟨ab, 0, none⟩)] w K := by
  refine m_ring_Act_claim_ok ?_
  unfold m_ring_Act_claim
  have hrd := hr.drew
  have oD : Only [ab, pb] w w.drew := Only.drew w
  refine nn_some (ld_ptr ha.h_r ?_)
  rw [hp]
  refine nn_some (nn_some ?_)
  simp only [addr_add, Nat.add_zero, Nat.zero_add]
  refine ld_bool ha.h_pops ?_
  unfold claimR claimA at hK
  by_cases hb : a.pops = true
  · simp only [if_pos hb] at hK
    refine if_yes hb (nn_some (ld_ptr ha.h_r ?_))
    rw [hp]
    refine nn_some ?_
    simp only [addr_add, Nat.add_zero, Nat.zero_add]
    refine claim3_ok ha h1 hr.h_head (hr.z_pb _) (fun e w' ho hat => ?_) (fun e w' ho hat => ?_)
    · simp only [if_pos e] at hK
      have s1 := hrd.set_head (IntKind.wrap .u64 (a.at_ + 1))
      exact hK w' ((oD.st (.inl (by simp)) hrd.h_head).trans (ho.mono (by simp))) (s1.only ho (by simpa using Ne.symm h1) (by simpa using Ne.symm h2)) hat
    · simp only [if_neg e] at hK
      exact hK w' (oD.trans (ho.mono (by simp))) (hrd.only ho (by simpa using Ne.symm h1) (by simpa using Ne.symm h2)) hat
  · simp only [if_neg hb] at hK
    refine if_no hb ?_
    refine claim3_ok ha h1 hr.h_tail (hr.z_pb _) (fun e w' ho hat => ?_) (fun e w' ho hat => ?_)
    · simp only [if_pos e] at hK
      have s1 := hrd.set_tail (IntKind.wrap .u64 (a.at_ + 1))
      exact hK w' ((oD.st (.inl (by simp)) hrd.h_tail).trans (ho.mono (by simp))) (s1.only ho (by simpa using Ne.symm h1) (by simpa using Ne.symm h2)) hat
    · simp only [if_neg e] at hK
      exact hK w' (oD.trans (ho.mono (by simp))) (hrd.only ho (by simpa using Ne.symm h1) (by simpa using Ne.symm h2)) hat

/-- the ring and the act behind a take -/
def takeR (r : RingM) (a : ActM) : RingM :=
  let i := (a.place % r.n).toNat
  if a.pops = true then { r with number := upd r.number i (IntKind.wrap .u64 (a.place + r.n)) }
  else { r with value := upd r.value i a.value, number := upd r.number i (IntKind.wrap .u64 (a.place + 1)) }
def takeA (r : RingM) (a : ActM) : ActM :=
  if a.pops = true then { a with value := r.value (a.place % r.n).toNat, next := 5, well := true } else { a with next := 5, well := true }

theorem ringTake_ok (hr : RingAt w pb sb r) (ha : ActAt w ab a) (hp : a.r = some ⟨pb, 0, none⟩) (h1 : ab ≠ pb) (h2 : ab ≠ sb) (hn : 0 < r.n ∧ r.n ≤ 64) (hpl : 0 ≤ a.place)
    (hK : ∀ w', Only [ab, sb] w w' → RingAt w' pb sb (takeR r a) → ActAt w' ab (takeA r a) → K (.tuple #[]) w') : CallsV P 172 #[.pointer (some ⟨ab, 0, none⟩)] w K := by
  refine m_ring_Act_take_ok ?_
  unfold m_ring_Act_take
  have had := ha.drew
  have hrd := hr.drew
  have hm := Int.emod_nonneg a.place (show (r.n : Int) ≠ 0 by omega)
  have hm2 := Int.emod_lt_of_pos a.place (show (0 : Int) < r.n by omega)
  obtain ⟨i, hi⟩ : ∃ i : Nat, (a.place % r.n).toNat = i := ⟨_, rfl⟩
  have hlt : i < r.n := by omega
  refine nn_some (ld_ptr had.h_r (nn_some ?_))
  simp only [addr_add, Nat.add_zero, Nat.zero_add]
  refine ld_int had.h_place ⟨some ⟨sb, (a.place % r.n).toNat * 2, none⟩, ?_, fun w1 hb => nn_some ?_⟩
  · rw [hp]
    exact q_of fun w1 hb K h => slot_ok (hrd.only (only_of_below hb) (by simp) (by simp)) hn hpl (h _ (Only.drew _))
  · have h3 := had.only (only_of_below hb) (by simp)
    have r3 := hrd.only (only_of_below hb) (by simp) (by simp)
    have o1 : Only [ab, sb] w w1 := (Only.drew w).trans ((only_of_below hb).mono (by simp))
    unfold takeR takeA at hK
    rw [hi] at hK ⊢
    simp only [addr_add, Nat.add_zero, Nat.zero_add]
    refine ld_bool h3.h_pops ?_
    by_cases hb2 : a.pops = true
    · simp only [if_pos hb2] at hK
      refine if_yes hb2 (nn_some ?_)
      simp only [addr_add, Nat.add_zero, Nat.zero_add]
      refine ld_int (r3.c_value i hlt) (nn_some ?_)
      simp only [addr_add, Nat.add_zero, Nat.zero_add]
      have s1 := h3.set_value (r.value i)
      have o2 := o1.st (v := .int .u64 (r.value i)) (.inl (by simp)) h3.h_value
      have r4 := r3.only ((Only.refl [ab] w1).st (v := .int .u64 (r.value i)) (.inl (by simp)) h3.h_value) (by simpa using Ne.symm h1) (by simpa using Ne.symm h2)
      refine St_at h3.h_value (h3.z_pb _) (nn_some (nn_some ?_))
      simp only [addr_add, Nat.add_zero, Nat.zero_add]
      have s1d := s1.drew
      have r4d := r4.drew
      refine ld_int s1d.h_place (nn_some (ld_ptr s1d.h_r ?_))
      show Nn a.r _
      rw [hp]
      refine nn_some ?_
      simp only [addr_add, Nat.add_zero, Nat.zero_add]
      refine ld_slice r4d.h_slots ?_
      rw [IntWalk.u64_in (r.n : Int) (by omega)]
      have r5 := r4d.set_number hlt (IntKind.wrap .u64 (a.place + r.n))
      have o3 := (o2.trans (Only.drew _)).st (v := .int .u64 (IntKind.wrap .u64 (a.place + r.n))) (.inl (by simp)) (r4d.c_number i hlt)
      have s2 := s1d.only ((Only.refl [sb] _).st (v := .int .u64 (IntKind.wrap .u64 (a.place + r.n))) (.inl (by simp)) (r4d.c_number i hlt)) (by simpa using h2)
      refine storeU_ok (r4d.c_number i hlt) (r4d.z_sb _) ⟨rfl, actEnd_ok s2 fun w' ho hat => ⟨rfl, ?_⟩⟩
      exact hK w' (o3.trans (ho.mono (by simp))) (r5.only ho (by simpa using Ne.symm h1) (by simpa using Ne.symm h2)) hat
    · simp only [if_neg hb2] at hK
      refine if_no hb2 (nn_some ?_)
      simp only [addr_add, Nat.add_zero, Nat.zero_add]
      refine ld_int h3.h_value (nn_some ?_)
      simp only [addr_add, Nat.add_zero, Nat.zero_add]
      have r4 := r3.set_value hlt a.value
      have o2 := o1.st (v := .int .u64 a.value) (.inl (by simp)) (r3.c_value i hlt)
      have s1 := h3.only ((Only.refl [sb] w1).st (v := .int .u64 a.value) (.inl (by simp)) (r3.c_value i hlt)) (by simpa using h2)
      refine St_at (r3.c_value i hlt) (r3.z_sb _) (nn_some (nn_some ?_))
      simp only [addr_add, Nat.add_zero, Nat.zero_add]
      have s1d := s1.drew
      have r4d := r4.drew
      refine ld_int s1d.h_place ?_
      have r5 := r4d.set_number hlt (IntKind.wrap .u64 (a.place + 1))
      have o3 := (o2.trans (Only.drew _)).st (v := .int .u64 (IntKind.wrap .u64 (a.place + 1))) (.inl (by simp)) (r4d.c_number i hlt)
      have s2 := s1d.only ((Only.refl [sb] _).st (v := .int .u64 (IntKind.wrap .u64 (a.place + 1))) (.inl (by simp)) (r4d.c_number i hlt)) (by simpa using h2)
      refine storeU_ok (r4d.c_number i hlt) (r4d.z_sb _) ⟨rfl, actEnd_ok s2 fun w' ho hat => ⟨rfl, ?_⟩⟩
      exact hK w' (o3.trans (ho.mono (by simp))) (r5.only ho (by simpa using Ne.symm h1) (by simpa using Ne.symm h2)) hat

/-- one access of an act -/
def stepR (r : RingM) (a : ActM) : RingM :=
  if a.next = 2 then claimR r a else if a.next = 4 then { r with tail := IntKind.wrap .u64 (r.tail + 1) } else if a.next = 3 then takeR r a else r
def stepA (r : RingM) (a : ActM) : ActM :=
  if a.next = 0 then { a with next := 1, at_ := if a.pops = true then r.head else r.tail } else if a.next = 1 then a.ask r else if a.next = 2 then claimA r a
  else if a.next = 4 then { a with place := IntKind.wrap .u64 (IntKind.wrap .u64 (r.tail + 1) - 1), next := 3 } else if a.next = 3 then takeA r a else a

theorem actStep_ok (hr : RingAt w pb sb r) (ha : ActAt w ab a) (hp : a.r = some ⟨pb, 0, none⟩) (h1 : ab ≠ pb) (h2 : ab ≠ sb) (hn : 0 < r.n ∧ r.n ≤ 64) (hpl : 0 ≤ a.place) (hat : 0 ≤ a.at_) (hnx : 0 ≤ a.next ∧ a.next ≤ 4)
    (hK : ∀ w', Only [ab, pb, sb] w w' → RingAt w' pb sb (stepR r a) → ActAt w' ab (stepA r a) → K (.bool (decide ((stepA r a).next = 5))) w') : CallsV P 115 #[.pointer (some ⟨ab, 0, none⟩)] w K := by
  refine m_ring_Act_Step_ok ?_
  unfold m_ring_Act_Step
  refine ended_ok ha ⟨_, rfl, if_no (by simp; omega) (nn_some ?_)⟩
  simp only [addr_add, Nat.add_zero, Nat.zero_add]
  refine ld_int ha.h_next ?_
  unfold stepR stepA at hK
  have hn1 := Ne.symm h1
  have hn2 := Ne.symm h2
  by_cases e0 : a.next = 0
  · simp only [e0, if_true, if_pos, show ¬ ((0 : Int) = 2) by omega, show ¬ ((0 : Int) = 4) by omega, show ¬ ((0 : Int) = 3) by omega, if_false] at hK
    refine if_yes (by simpa using e0) (read_ok hr ha hp h1 fun w' ho hat' => ⟨rfl, ended_ok hat' ⟨_, rfl, hK w' (ho.mono (by simp)) (hr.only ho (by simpa using hn1) (by simpa using hn2)) hat'⟩⟩)
  · refine if_no (by simpa using e0) ?_
    by_cases e1 : a.next = 1
    · simp only [e1, if_true, if_false, show ¬ ((1 : Int) = 0) by omega, show ¬ ((1 : Int) = 2) by omega, show ¬ ((1 : Int) = 4) by omega, show ¬ ((1 : Int) = 3) by omega] at hK
      refine if_yes (by simpa using e1) (ask_ok hr ha hp hn hat fun w' ho hat' => ⟨rfl, ended_ok hat' ⟨_, rfl, hK w' (ho.mono (by simp)) (hr.only ho (by simpa using hn1) (by simpa using hn2)) hat'⟩⟩)
    · refine if_no (by simpa using e1) ?_
      by_cases e2 : a.next = 2
      · simp only [e2, if_true, if_false, show ¬ ((2 : Int) = 0) by omega, show ¬ ((2 : Int) = 1) by omega] at hK
        refine if_yes (by simpa using e2) (claim_ok hr ha hp h1 h2 fun w' ho hr' hat' => ⟨rfl, ended_ok hat' ⟨_, rfl, hK w' (ho.mono (by simp)) hr' hat'⟩⟩)
      · refine if_no (by simpa using e2) ?_
        by_cases e4 : a.next = 4
        · simp only [e4, if_true, if_false, show ¬ ((4 : Int) = 0) by omega, show ¬ ((4 : Int) = 1) by omega, show ¬ ((4 : Int) = 2) by omega] at hK
          refine if_yes (by simpa using e4) (nn_some (ld_ptr ha.h_r ?_))
          rw [hp]
          refine nn_some ?_
          simp only [addr_add, Nat.add_zero, Nat.zero_add]
          have s1 := hr.set_tail (IntKind.wrap .u64 (r.tail + 1))
          have o1 := (Only.refl [ab, pb, sb] w).st (v := .int .u64 (IntKind.wrap .u64 (r.tail + 1))) (.inl (by simp)) hr.h_tail
          have a1 := ha.only ((Only.refl [pb] w).st (v := .int .u64 (IntKind.wrap .u64 (r.tail + 1))) (.inl (by simp)) hr.h_tail) (by simpa using h1)
          refine addU_ok hr.h_tail (hr.z_pb _) ⟨_, rfl, nn_some ?_⟩
          simp only [addr_add, Nat.add_zero, Nat.zero_add]
          have a2 := a1.set_place (IntKind.wrap .u64 (IntKind.wrap .u64 (r.tail + 1) - 1))
          have o2 := o1.st (v := .int .u64 (IntKind.wrap .u64 (IntKind.wrap .u64 (r.tail + 1) - 1))) (.inl (by simp)) a1.h_place
          have p2 := (Only.refl [ab] _).st (v := .int .u64 (IntKind.wrap .u64 (IntKind.wrap .u64 (r.tail + 1) - 1))) (.inl (by simp)) a1.h_place
          refine St_at a1.h_place (a1.z_pb _) (nn_some ?_)
          simp only [addr_add, Nat.add_zero, Nat.zero_add]
          have a3 := a2.set_next 3
          have o3 := o2.st (v := .int .i64 3) (.inl (by simp)) a2.h_next
          have p3 := p2.st (v := .int .i64 3) (.inl (by simp)) a2.h_next
          refine St_at a2.h_next (a2.z_pb _) (ended_ok a3 ⟨_, rfl, hK _ o3 (s1.only p3 (by simpa using hn1) (by simpa using hn2)) a3⟩)
        · have e3 : a.next = 3 := by omega
          simp only [e3, if_true, if_false, show ¬ ((3 : Int) = 0) by omega, show ¬ ((3 : Int) = 1) by omega, show ¬ ((3 : Int) = 2) by omega, show ¬ ((3 : Int) = 4) by omega] at hK
          refine if_no (by simpa using e4) (if_yes (by simpa using e3) (ringTake_ok hr ha hp h1 h2 hn hpl fun w' ho hr' hat' => ⟨rfl, ended_ok hat' ⟨_, rfl, hK w' (ho.mono (by simp)) hr' hat'⟩⟩))

end Go.M

/- A new ring. -/
set_option linter.all false
set_option linter.constructorNameAsVariable false
namespace Go.M
open Go Go.Eng Go.RowKit

/-- what a capacity is asked for: is it a power of two? -/
def bits2 (c : Int) : Int := IntKind.wrap .i64 ((BitVec.ofInt (IntKind.bits .i64) c &&& BitVec.ofInt (IntKind.bits .i64) (IntKind.wrap .i64 (c - 1))).toNat)

def RingM.new (n : Nat) : RingM := ⟨n, 0, 0, fun j => j, fun _ => 0⟩

theorem ringNew_ok {n : Nat} (h1 : 2 ≤ n) (h2 : n ≤ 64) (hb : bits2 n = 0) {w : World} {K : Value → World → Prop}
    (hK : ∀ w' pb sb r, Only [] w w' → w.heap.size ≤ pb → w.heap.size ≤ sb → RingAt w' pb sb r → r.n = n → r.tail = 0 → r.head = 0 → (∀ j, j < n → r.number j = j) → (∀ j, j < n → r.value j = 0) → K (.tuple #[.pointer (some ⟨pb, 0, none⟩), .int .i64 0]) w') :
    CallsV P 58 #[.int .i64 (n : Int)] w K := by
  refine m_ring_New_ok ?_
  unfold m_ring_New
  refine if_no (by simp; omega) (if_no (by simp; omega) (if_no (fun hc => by simp only [Bool.not_eq_true', decide_eq_false_iff_not] at hc; exact hc hb) ?_))
  unfold m_ring_New_c3
  refine make_ok W2 (t := 214) (e := 220) (ti := ti220) rfl rfl rfl (by simp [ti220]; omega) (by omega) ⟨_, _, _, rfl, al_intro ?_⟩
  rw [World.size_alloc]
  obtain ⟨W, hW⟩ : ∃ W, (w.alloc (.cells (madeCells ti220.zero.cells (n * ti220.size)) 220)).alloc (.cells #[(.int .u64 0), (.int .u64 0), (.slice (some ⟨w.heap.size, 0, none⟩) n n)] 218) = W := ⟨_, rfl⟩
  rw [hW]
  have hm : ∀ i k, i < n → k < 2 → (madeCells ti220.zero.cells (n * ti220.size))[i * 2 + k]? = ti220.zero.cells[k]? := fun i k hi hk => by
    rw [made_get _ _ _ (by show i * 2 + k < n * 2; omega) (by show 0 < 2; omega)]
    have : (i * 2 + k) % ti220.zero.cells.size = k := by show (i * 2 + k) % 2 = k; omega
    rw [this]
  have hm0 : ∀ i, i < n → (madeCells ti220.zero.cells (n * ti220.size))[i * 2]? = ti220.zero.cells[0]? := fun i hi => hm i 0 hi (by omega)
  have o0 : Only [] w W := by rw [← hW]; exact (Only.alloc _ _).trans (Only.alloc _ _)
  have r0 : RingAt W (w.heap.size + 1) w.heap.size ⟨n, 0, 0, fun _ => 0, fun _ => 0⟩ := by
    rw [← hW]
    constructor <;> (try intro i) <;> (try intro hi) <;> (try simp [cell_new, frozen_new, World.size_alloc])
    all_goals first | omega | (rw [hm0 i hi]; rfl) | (rw [hm i _ hi (by omega)]; rfl)
  refine ld_slice (by simpa using r0.h_slots) ?_
  refine loop_count n (fun i w' => Only [] w w' ∧ ∃ r, RingAt w' (w.heap.size + 1) w.heap.size r ∧ r.n = n ∧ r.tail = 0 ∧ r.head = 0 ∧ (∀ j, j < i → r.number j = j) ∧ (∀ j, r.value j = 0))
    (fun i => [.pointer (some ⟨w.heap.size + 1, 0, none⟩), .int .i64 (n : Int), .int .i64 (i : Int)]) ?_ ?_ ⟨o0, _, r0, rfl, rfl, rfl, fun j hj => by omega, fun _ => rfl⟩
  · rintro i w' next hi ⟨ho, r, hr, e1, e2, e3, e4, e5⟩ hnext
    unfold m_ring_New_l122
    simp only
    have hi' : i < r.n := by omega
    refine if_yes (by simpa using hi) ?_
    simp only [addr_add, Nat.add_zero, Nat.zero_add]
    refine ld_slice hr.h_slots (ix_nat hi' ?_)
    simp only [addr_add, Nat.add_zero, Nat.zero_add, Int.toNat_natCast]
    rw [IntWalk.u64_in (i : Int) (by omega)]
    refine storeU_ok (hr.c_number i hi') (hr.z_sb _) ⟨rfl, ?_⟩
    rw [IntWalk.i64_in _ (by omega)]
    have := hnext (w'.setCell ⟨w.heap.size, i * 2, none⟩ (.int .u64 (i : Int))) ⟨ho.st (.inr (Nat.le_refl _)) (hr.c_number i hi'), _, hr.set_number hi' (i : Int), e1, e2, e3, fun j hj => ?_, e5⟩
    · exact this
    · by_cases e : j = i
      · subst e; simp
      · simp only [upd_other e]; exact e4 j (by omega)
  · rintro w' next ⟨ho, r, hr, e1, e2, e3, e4, e5⟩
    unfold m_ring_New_l122
    simp only
    refine if_no (by simp) ?_
    simp only [m_ring_New_l122_o, m_ring_New_c3_o]
    exact hK w' _ _ r ho (by omega) (Nat.le_refl _) hr e1 e2 e3 e4 (fun j _ => e5 j)

end Go.M

/- Slices cut; rows that are shortened. -/
namespace Go.Eng
open Go Go.RowKit

variable {P : Program} {C : Tell}

theorem elem_of {t e : TypeId} (h : P.underlying t = some (.slice e)) : P.elem t = e := by simp [Program.elem, h]

theorem run_size_ty {e : TypeId} {ti : TI} (hC : C.Ok P) (hti : C.ty e = some ti) (w : World) : (sizeOf e).run P w = .ok ti.size w := by
  obtain ⟨i, td, h5⟩ := tyIs hC hti
  rw [run_size h5.info, h5.size]

theorem cut_hi (hW : World2 P C) {t e : TypeId} {ti : TI} (hs : shape1 C t = some (.slice e)) (hti : C.ty e = some ti) {a : Option Addr} {len cap : Nat} {h : Int} (h0 : 0 ≤ h) (h1 : h ≤ cap) {w : World} {k : Value → World → Prop}
    (hk : k (.slice a h.toNat cap) w) : Run P (Instr.sliceAt t (.slice a len cap) none (some (.int .i64 h)) none) w k := by
  obtain ⟨ti', i, td, g1, g2, g3, g4⟩ := und_shape hW.ok hs
  cases td <;> simp [D.agrees] at g4
  subst g4
  have he := elem_of g3.und
  have hu : P.underlying t = some (.slice (P.elem t)) := by rw [he]; exact g3.und
  refine ⟨_, w, ?_, hk⟩
  rw [run_sliceAt_slice w t _ _ _ _ hu, run_slice_h w t a len cap hu .i64 h h0 h1, he, run_size_ty hW.ok hti]
  have : a.map (fun x => x.add (0 * ti.size)) = a := by cases a <;> simp
  simp [Result.andThen, sliced, this]

theorem own_short {w : World} {base : Nat} {e : TypeId} {size g n m cap : Nat} {xs : List Value} (h : w.ownsRow base e size (.slice (some ⟨g, 0, none⟩) n cap) n xs) (hm : m ≤ n) : w.ownsRow base e size (.slice (some ⟨g, 0, none⟩) m cap) m (xs.take (m * size)) := by
  have hmul : m * size ≤ n * size := Nat.mul_le_mul_right _ hm
  refine ⟨by rw [List.length_take, h.1]; omega, ?_⟩
  rcases h.2 with ⟨h', _⟩ | ⟨g', cap', cur, h', hb, hg, hnc, hcm, hcs, htake⟩
  · simp at h'
  · simp only [Value.slice.injEq, Option.some.injEq, Addr.mk.injEq, and_true, true_and] at h'
    obtain ⟨rfl, rfl⟩ := h'
    refine .inr ⟨g, cap, cur, rfl, hb, hg, by omega, hcm, hcs, ?_⟩
    rw [← htake, List.take_take]
    congr 1
    omega

theorem Only.trans_new {S T : List Nat} {w w1 w2 : World} (h : Only S w w1) (k : Only T w1 w2) (hT : ∀ b ∈ T, b ∈ S ∨ w.heap.size ≤ b) : Only S w w2 :=
  ⟨⟨k.env.1.trans h.env.1, k.env.2.1.trans h.env.2.1, k.env.2.2.trans h.env.2.2⟩, Nat.le_trans h.size k.size, fun b hb hs => (k.same b (Nat.lt_of_lt_of_le hb h.size) fun hc => by
    rcases hT b hc with h1 | h1
    · exact hs h1
    · omega).trans (h.same b hb hs), fun b o ho hc => k.others b o (h.others b o ho hc) hc⟩

end Go.Eng
