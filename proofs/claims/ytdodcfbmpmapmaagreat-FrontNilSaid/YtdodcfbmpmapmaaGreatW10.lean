/- Proofs about the front of the overload controller, part 10: H0 C9 C13. -/
import Derived.Test.YtdodcfbmpmapmaaGreatW03
import Derived.Test.YtdodcfbmpmapmaaGreatW05
import Derived.IntWalk
set_option linter.all false
set_option linter.constructorNameAsVariable false
set_option linter.unusedVariables false
namespace Go.M
open Go Go.Eng Go.RowKit
set_option linter.all false
set_option linter.constructorNameAsVariable false
set_option maxRecDepth 100000
attribute [local irreducible] evCode owes Owed

def m_heap_New_l122 (vs : List Value) (w0 : World) (next : List Value → World → Prop) (out : Nat × List Value → World → Prop) : Prop :=
  match vs with
  | [.pointer (some h13), .int .i64 n14, .int .i64 n15] => (if (decide (n15 < n14)) = true then ∃ (sA16 : Option Addr) (sL17 : Nat) (sC18 : Nat), World.cell? w0 (h13.add 1) = some (.slice sA16 sL17 sC18) ∧ Ix sA16 sL17 n15 fun a19 => St ((a19.add (Int.toNat n15 * 1)).add 0) (.int .i64 (-1)) w0 fun w20 => next [(.pointer (some h13)), (.int .i64 n14), (.int .i64 (IntKind.wrap .i64 (n15 + 1)))] w20 else out (0, [(.pointer (some h13))]) w0)
  | _ => False

def m_heap_New_l122_o (y : Nat × List Value) (k0 : Addr → Prop) : Prop :=
  match y with
  | (0, [.pointer (some h21)]) => k0 h21
  | _ => False

def m_heap_New_c3 (vs : List Value) (w0 : World) (out : Nat × List Value → World → Prop) : Prop :=
  match vs with
  | [.int .i64 room2] => Run P (Instr.makeSlice 47 (.int .i64 room2) (.int .i64 room2)) w0 fun v3 w4 => ∃ (sA5 : Option Addr) (sL6 : Nat) (sC7 : Nat), v3 = (.slice sA5 sL6 sC7) ∧ Al #[(.slice none 0 0), (.slice sA5 sL6 sC7)] 324 w4 fun b8 w9 => ∃ (sA10 : Option Addr) (sL11 : Nat) (sC12 : Nat), World.cell? w9 ((⟨b8, 0, none⟩ : Addr).add 1) = some (.slice sA10 sL11 sC12) ∧ LoopP m_heap_New_l122 [(.pointer (some (⟨b8, 0, none⟩ : Addr))), (.int .i64 ((sL11 : Nat) : Int)), (.int .i64 0)] w9 fun y23 w22 => m_heap_New_l122_o y23 (fun h24 => out (0, [(.pointer (some h24)), (.int .i64 0)]) w22)
  | _ => False

def m_heap_New_c3_o (y : Nat × List Value) (k0 : Option Addr → Int → Prop) : Prop :=
  match y with
  | (0, [.pointer p25, .int .i64 n26]) => k0 p25 n26
  | _ => False

/-- overfall/heap.New -/
def m_heap_New (room1 : Int) (w0 : World) (K : Value → World → Prop) : Prop :=
  (if (decide (room1 < 1)) = true then K (.tuple #[(.pointer none), (.int .i64 1)]) w0 else (if (decide (1024 < room1)) = true then K (.tuple #[(.pointer none), (.int .i64 1)]) w0 else m_heap_New_c3 [(.int .i64 room1)] w0 fun y28 w27 => m_heap_New_c3_o y28 (fun p29 n30 => K (.tuple #[(.pointer p29), (.int .i64 n30)]) w27)))

theorem func_125 : P.funcs[125]? = some (fnOf 125) := by kernel_rfl
theorem body_125 : (fnOf 125).body = some (bodyOf 125) := by kernel_rfl
def m_heap_New_c3_p (y : Nat × List Value) (k : Nat × List Value → Prop) : Prop := m_heap_New_c3_o y (fun p25 n26 => k (0, [(.pointer p25), (.int .i64 n26)]))
theorem m_heap_New_c3_pok : ∀ y k, m_heap_New_c3_p y k → k y := by
  intro y k h
  unfold m_heap_New_c3_p m_heap_New_c3_o at h
  split at h <;> first | exact h | exact h.elim
def m_heap_New_l122_p (y : Nat × List Value) (k : Nat × List Value → Prop) : Prop := m_heap_New_l122_o y (fun h21 => k (0, [(.pointer (some h21))]))
theorem m_heap_New_l122_pok : ∀ y k, m_heap_New_l122_p y k → k y := by
  intro y k h
  unfold m_heap_New_l122_p m_heap_New_l122_o at h
  split at h <;> first | exact h | exact h.elim
def m_heap_New_c3_E : Env → World → Kont → Prop := (fun e w k => takeK 32 [0] e fun vs => m_heap_New_c3 vs w fun y w => m_heap_New_c3_p y fun y => outK 32 [(.ret, [2, 3])] k y w)
def m_heap_New_l122_E : Env → World → Kont → Prop := (fun e w k => takeK 32 [4, 20, 21] e fun vs => LoopP m_heap_New_l122 vs w fun y w => m_heap_New_l122_p y fun y => outK 32 [(.exit 0, [4])] k y w)
def O_m_heap_New : Orac := { loop := fun p => cond (Nat.beq p 122) m_heap_New_l122_E ((fun _ _ _ => False)), cut := fun p => cond (Nat.beq p 3) (some m_heap_New_c3_E) (none) }
theorem m_heap_New_l122_owed : Owed P O_m_heap_New (loopBody (codeAt (bodyOf 125) [true, true, true, false, true, false])) 244 := owed_of (cast (by kernel_rfl) True.intro)
theorem m_heap_New_l122_ok : Sound P (.loop (loopBody (codeAt (bodyOf 125) [true, true, true, false, true, false]))) m_heap_New_l122_E := by
  refine loop_sound (evCode_sound W2 O_m_heap_New (loopBody (codeAt (bodyOf 125) [true, true, true, false, true, false])) 244 m_heap_New_l122_owed) 32 [4, 20, 21] [(.exit 0, [4])] m_heap_New_l122 ?_ m_heap_New_l122_p m_heap_New_l122_pok
  intro vs w next out h
  unfold m_heap_New_l122 at h
  split at h
  · exact cast (by kernel_rfl) h
  · exact h.elim
theorem m_heap_New_c3_owed : Owed P O_m_heap_New (codeAt (bodyOf 125) [true, true]) 7 := owed_of (cast (by kernel_rfl) m_heap_New_l122_ok)
theorem m_heap_New_c3_ok : Sound P (codeAt (bodyOf 125) [true, true]) m_heap_New_c3_E := by
  refine piece_sound (evCode_sound W2 O_m_heap_New (codeAt (bodyOf 125) [true, true]) 7 m_heap_New_c3_owed) 32 [0] [(.ret, [2, 3])] m_heap_New_c3 ?_ m_heap_New_c3_p m_heap_New_c3_pok
  intro vs w out h
  unfold m_heap_New_c3 at h
  split at h
  · exact cast (by kernel_rfl) h
  · exact h.elim
theorem m_heap_New_owed : Owed P O_m_heap_New (bodyOf 125) 1 := owed_of (cast (by kernel_rfl) m_heap_New_c3_ok)
theorem m_heap_New_eq (room1 : Int) (w0 : World) (K : Value → World → Prop) : m_heap_New room1 w0 K = evCode T0 P O_m_heap_New (bodyOf 125) 1 (env0 (Array.toList #[(.int .i64 room1)]) (fnOf 125).ntmps) w0 (endK T0 (fnOf 125).results.toList K) := by kernel_rfl
theorem m_heap_New_ok {room1 : Int} {w0 : World} {K : Value → World → Prop} (h : m_heap_New room1 w0 K) : CallsV P 125 #[(.int .i64 room1)] w0 K :=
  func_sound W2 func_125 body_125 m_heap_New_owed (Eq.mp (m_heap_New_eq room1 w0 K) h)


/-- (*overfall/heap.Heap).member -/
def m_heap_Heap_member (h1 : Option Addr) (i2 : Int) (w0 : World) (K : Value → World → Prop) : Prop :=
  (if (decide (0 ≤ i2)) = true then Nn h1 fun h3 => ∃ (sA4 : Option Addr) (sL5 : Nat) (sC6 : Nat), World.cell? w0 (h3.add 1) = some (.slice sA4 sL5 sC6) ∧ K (.bool (decide (i2 < ((sL5 : Nat) : Int)))) w0 else K (.bool false) w0)

theorem func_227 : P.funcs[227]? = some (fnOf 227) := by kernel_rfl
theorem body_227 : (fnOf 227).body = some (bodyOf 227) := by kernel_rfl
theorem m_heap_Heap_member_owed : Owed P O0 (bodyOf 227) 1 := owed_of (cast (by kernel_rfl) True.intro)
theorem m_heap_Heap_member_eq (h1 : Option Addr) (i2 : Int) (w0 : World) (K : Value → World → Prop) : m_heap_Heap_member h1 i2 w0 K = evCode T0 P O0 (bodyOf 227) 1 (env0 (Array.toList #[(.pointer h1), (.int .i64 i2)]) (fnOf 227).ntmps) w0 (endK T0 (fnOf 227).results.toList K) := by kernel_rfl
theorem m_heap_Heap_member_ok {h1 : Option Addr} {i2 : Int} {w0 : World} {K : Value → World → Prop} (h : m_heap_Heap_member h1 i2 w0 K) : CallsV P 227 #[(.pointer h1), (.int .i64 i2)] w0 K :=
  func_sound W2 func_227 body_227 m_heap_Heap_member_owed (Eq.mp (m_heap_Heap_member_eq h1 i2 w0 K) h)


/-- (*overfall/heap.Heap).Put -/
def m_heap_Heap_Put (h1 : Option Addr) (i2 : Int) (key3 : Int) (tie4 : Int) (w0 : World) (K : Value → World → Prop) : Prop :=
  (if (Option.isNone h1) = true then K (.int .i64 3) w0 else CallsV P 227 #[(.pointer h1), (.int .i64 i2)] w0 fun v5 w6 => ∃ (b7 : Bool), v5 = (.bool b7) ∧ (if (!b7) = true then K (.int .i64 1) w6 else Nn h1 fun h8 => ∃ (sA9 : Option Addr) (sL10 : Nat) (sC11 : Nat), World.cell? w6 (h8.add 1) = some (.slice sA9 sL10 sC11) ∧ Ix sA9 sL10 i2 fun a12 => ∃ (n13 : Int), World.cell? w6 (a12.add (Int.toNat i2 * 1)) = some (.int .i64 n13) ∧ (if (!decide (n13 = (-1))) = true then K (.int .i64 10) w6 else Nn h1 fun h14 => ∃ (sA15 : Option Addr) (sL16 : Nat) (sC17 : Nat), World.cell? w6 (h14.add 0) = some (.slice sA15 sL16 sC17) ∧ Al #[(.int .i64 key3), (.int .u64 tie4), (.int .i64 i2)] 377 w6 fun b18 w19 => RunB P .append #[322, 322] 322 #[false, false] #[(.slice sA15 sL16 sC17), (.slice (some (⟨b18, 0, none⟩ : Addr)) 1 1)] w19 fun v20 w21 => ∃ (sA22 : Option Addr) (sL23 : Nat) (sC24 : Nat), v20 = (.slice sA22 sL23 sC24) ∧ Nn h1 fun h25 => St ((h25.add 0).add 0) (.slice sA22 sL23 sC24) w21 fun w26 => Nn h1 fun h27 => ∃ (sA28 : Option Addr) (sL29 : Nat) (sC30 : Nat), World.cell? w26 (h27.add 0) = some (.slice sA28 sL29 sC30) ∧ CallsV P 228 #[(.pointer h1), (.int .i64 (IntKind.wrap .i64 (((sL29 : Nat) : Int) - 1)))] w26 fun v31 w32 => v31 = (.tuple #[]) ∧ K (.int .i64 0) w32)))

theorem func_183 : P.funcs[183]? = some (fnOf 183) := by kernel_rfl
theorem body_183 : (fnOf 183).body = some (bodyOf 183) := by kernel_rfl
theorem m_heap_Heap_Put_owed : Owed P O0 (bodyOf 183) 1 := owed_of (cast (by kernel_rfl) True.intro)
theorem m_heap_Heap_Put_eq (h1 : Option Addr) (i2 : Int) (key3 : Int) (tie4 : Int) (w0 : World) (K : Value → World → Prop) : m_heap_Heap_Put h1 i2 key3 tie4 w0 K = evCode T0 P O0 (bodyOf 183) 1 (env0 (Array.toList #[(.pointer h1), (.int .i64 i2), (.int .i64 key3), (.int .u64 tie4)]) (fnOf 183).ntmps) w0 (endK T0 (fnOf 183).results.toList K) := by kernel_rfl
theorem m_heap_Heap_Put_ok {h1 : Option Addr} {i2 : Int} {key3 : Int} {tie4 : Int} {w0 : World} {K : Value → World → Prop} (h : m_heap_Heap_Put h1 i2 key3 tie4 w0 K) : CallsV P 183 #[(.pointer h1), (.int .i64 i2), (.int .i64 key3), (.int .u64 tie4)] w0 K :=
  func_sound W2 func_183 body_183 m_heap_Heap_Put_owed (Eq.mp (m_heap_Heap_Put_eq h1 i2 key3 tie4 w0 K) h)


def m_heap_Heap_up_c24 (vs : List Value) (w0 : World) (out : Nat × List Value → World → Prop) : Prop :=
  match vs with
  | [.pointer h32, .int .i64 k33, .pointer (some e34)] => Nn h32 fun h35 => ∃ (sA36 : Option Addr) (sL37 : Nat) (sC38 : Nat), World.cell? w0 (h35.add 0) = some (.slice sA36 sL37 sC38) ∧ Ix sA36 sL37 (IntKind.wrap .i64 (Int.tdiv (IntKind.wrap .i64 (k33 - 1)) 2)) fun a39 => ∃ (n40 : Int), World.cell? w0 ((a39.add (Int.toNat (IntKind.wrap .i64 (Int.tdiv (IntKind.wrap .i64 (k33 - 1)) 2)) * 3)).add 0) = some (.int .i64 n40) ∧ ∃ (n41 : Int), World.cell? w0 ((a39.add (Int.toNat (IntKind.wrap .i64 (Int.tdiv (IntKind.wrap .i64 (k33 - 1)) 2)) * 3)).add 1) = some (.int .u64 n41) ∧ ∃ (n42 : Int), World.cell? w0 ((a39.add (Int.toNat (IntKind.wrap .i64 (Int.tdiv (IntKind.wrap .i64 (k33 - 1)) 2)) * 3)).add 2) = some (.int .i64 n42) ∧ CallsV P 247 #[(.pointer h32), (.int .i64 k33), (.agg #[(.int .i64 n40), (.int .u64 n41), (.int .i64 n42)])] w0 fun v43 w44 => v43 = (.tuple #[]) ∧ out (0, [(.pointer h32), (.int .i64 (IntKind.wrap .i64 (Int.tdiv (IntKind.wrap .i64 (k33 - 1)) 2))), (.pointer (some e34))]) w44
  | _ => False

def m_heap_Heap_up_c24_o (y : Nat × List Value) (k0 : Option Addr → Int → Addr → Prop) : Prop :=
  match y with
  | (0, [.pointer h45, .int .i64 k46, .pointer (some e47)]) => k0 h45 k46 e47
  | _ => False

def m_heap_Heap_up_l12 (vs : List Value) (w0 : World) (next : List Value → World → Prop) (out : Nat × List Value → World → Prop) : Prop :=
  match vs with
  | [.pointer h16, .int .i64 k17, .pointer (some e18)] => (if (decide (0 < k17)) = true then ∃ (n19 : Int), World.cell? (World.drew w0) (e18.add 0) = some (.int .i64 n19) ∧ ∃ (n20 : Int), World.cell? (World.drew w0) (e18.add 1) = some (.int .u64 n20) ∧ ∃ (n21 : Int), World.cell? (World.drew w0) (e18.add 2) = some (.int .i64 n21) ∧ Nn h16 fun h22 => ∃ (sA23 : Option Addr) (sL24 : Nat) (sC25 : Nat), World.cell? (World.drew w0) (h22.add 0) = some (.slice sA23 sL24 sC25) ∧ Ix sA23 sL24 (IntKind.wrap .i64 (Int.tdiv (IntKind.wrap .i64 (k17 - 1)) 2)) fun a26 => ∃ (n27 : Int), World.cell? (World.drew w0) ((a26.add (Int.toNat (IntKind.wrap .i64 (Int.tdiv (IntKind.wrap .i64 (k17 - 1)) 2)) * 3)).add 0) = some (.int .i64 n27) ∧ ∃ (n28 : Int), World.cell? (World.drew w0) ((a26.add (Int.toNat (IntKind.wrap .i64 (Int.tdiv (IntKind.wrap .i64 (k17 - 1)) 2)) * 3)).add 1) = some (.int .u64 n28) ∧ ∃ (n29 : Int), World.cell? (World.drew w0) ((a26.add (Int.toNat (IntKind.wrap .i64 (Int.tdiv (IntKind.wrap .i64 (k17 - 1)) 2)) * 3)).add 2) = some (.int .i64 n29) ∧ ∃ (n30 : Int), QCall P 237 #[(.agg #[(.int .i64 n19), (.int .u64 n20), (.int .i64 n21)]), (.agg #[(.int .i64 n27), (.int .u64 n28), (.int .i64 n29)])] (World.drew w0) (.int .i64 n30) ∧ ∀ w31 : World, Below (World.heap (World.drew w0)).size (World.drew w0) w31 → (if (decide (n30 < 0)) = true then m_heap_Heap_up_c24 [(.pointer h16), (.int .i64 k17), (.pointer (some e18))] w31 fun y49 w48 => m_heap_Heap_up_c24_o y49 (fun h50 k51 e52 => next [(.pointer h50), (.int .i64 k51), (.pointer (some e52))] w48) else out (0, [(.pointer h16), (.int .i64 k17), (.pointer (some e18))]) w31) else out (0, [(.pointer h16), (.int .i64 k17), (.pointer (some e18))]) (World.drew w0))
  | _ => False

def m_heap_Heap_up_l12_o (y : Nat × List Value) (k0 : Option Addr → Int → Addr → Prop) : Prop :=
  match y with
  | (0, [.pointer h53, .int .i64 k54, .pointer (some e55)]) => k0 h53 k54 e55
  | _ => False

/-- (*overfall/heap.Heap).up -/
def m_heap_Heap_up (h1 : Option Addr) (k2 : Int) (w0 : World) (K : Value → World → Prop) : Prop :=
  Nn h1 fun h3 => ∃ (sA4 : Option Addr) (sL5 : Nat) (sC6 : Nat), World.cell? w0 (h3.add 0) = some (.slice sA4 sL5 sC6) ∧ Ix sA4 sL5 k2 fun a7 => ∃ (n8 : Int), World.cell? w0 ((a7.add (Int.toNat k2 * 3)).add 0) = some (.int .i64 n8) ∧ ∃ (n9 : Int), World.cell? w0 ((a7.add (Int.toNat k2 * 3)).add 1) = some (.int .u64 n9) ∧ ∃ (n10 : Int), World.cell? w0 ((a7.add (Int.toNat k2 * 3)).add 2) = some (.int .i64 n10) ∧ Al #[(.int .i64 0), (.int .u64 0), (.int .i64 0)] 377 w0 fun b11 w12 => St ((⟨b11, 0, none⟩ : Addr).add 0) (.int .i64 n8) w12 fun w13 => St ((⟨b11, 0, none⟩ : Addr).add 1) (.int .u64 n9) w13 fun w14 => St ((⟨b11, 0, none⟩ : Addr).add 2) (.int .i64 n10) w14 fun w15 => LoopP m_heap_Heap_up_l12 [(.pointer h1), (.int .i64 k2), (.pointer (some (⟨b11, 0, none⟩ : Addr)))] w15 fun y57 w56 => m_heap_Heap_up_l12_o y57 (fun h58 k59 e60 => ∃ (n61 : Int), World.cell? w56 (e60.add 0) = some (.int .i64 n61) ∧ ∃ (n62 : Int), World.cell? w56 (e60.add 1) = some (.int .u64 n62) ∧ ∃ (n63 : Int), World.cell? w56 (e60.add 2) = some (.int .i64 n63) ∧ CallsV P 247 #[(.pointer h58), (.int .i64 k59), (.agg #[(.int .i64 n61), (.int .u64 n62), (.int .i64 n63)])] w56 fun v64 w65 => v64 = (.tuple #[]) ∧ K (.tuple #[]) w65)

theorem func_228 : P.funcs[228]? = some (fnOf 228) := by kernel_rfl
theorem body_228 : (fnOf 228).body = some (bodyOf 228) := by kernel_rfl
def m_heap_Heap_up_l12_p (y : Nat × List Value) (k : Nat × List Value → Prop) : Prop := m_heap_Heap_up_l12_o y (fun h53 k54 e55 => k (0, [(.pointer h53), (.int .i64 k54), (.pointer (some e55))]))
theorem m_heap_Heap_up_l12_pok : ∀ y k, m_heap_Heap_up_l12_p y k → k y := by
  intro y k h
  unfold m_heap_Heap_up_l12_p m_heap_Heap_up_l12_o at h
  split at h <;> first | exact h | exact h.elim
def m_heap_Heap_up_c24_p (y : Nat × List Value) (k : Nat × List Value → Prop) : Prop := m_heap_Heap_up_c24_o y (fun h45 k46 e47 => k (0, [(.pointer h45), (.int .i64 k46), (.pointer (some e47))]))
theorem m_heap_Heap_up_c24_pok : ∀ y k, m_heap_Heap_up_c24_p y k → k y := by
  intro y k h
  unfold m_heap_Heap_up_c24_p m_heap_Heap_up_c24_o at h
  split at h <;> first | exact h | exact h.elim
def m_heap_Heap_up_l12_E : Env → World → Kont → Prop := (fun e w k => takeK 47 [0, 1, 4] e fun vs => LoopP m_heap_Heap_up_l12 vs w fun y w => m_heap_Heap_up_l12_p y fun y => outK 47 [(.exit 0, [0, 1, 4])] k y w)
def m_heap_Heap_up_c24_E : Env → World → Kont → Prop := (fun e w k => takeK 47 [0, 1, 4] e fun vs => m_heap_Heap_up_c24 vs w fun y w => m_heap_Heap_up_c24_p y fun y => outK 47 [(.normal, [0, 1, 4])] k y w)
def O_m_heap_Heap_up : Orac := { loop := fun p => cond (Nat.beq p 12) m_heap_Heap_up_l12_E ((fun _ _ _ => False)), cut := fun p => cond (Nat.beq p 24) (some m_heap_Heap_up_c24_E) (none) }
theorem m_heap_Heap_up_c24_owed : Owed P O_m_heap_Heap_up (codeAt (bodyOf 228) [true, false, false, false, true]) 49 := owed_of (cast (by kernel_rfl) True.intro)
theorem m_heap_Heap_up_c24_ok : Sound P (codeAt (bodyOf 228) [true, false, false, false, true]) m_heap_Heap_up_c24_E := by
  refine piece_sound (evCode_sound W2 O_m_heap_Heap_up (codeAt (bodyOf 228) [true, false, false, false, true]) 49 m_heap_Heap_up_c24_owed) 47 [0, 1, 4] [(.normal, [0, 1, 4])] m_heap_Heap_up_c24 ?_ m_heap_Heap_up_c24_p m_heap_Heap_up_c24_pok
  intro vs w out h
  unfold m_heap_Heap_up_c24 at h
  split at h
  · exact cast (by kernel_rfl) h
  · exact h.elim
theorem m_heap_Heap_up_l12_owed : Owed P O_m_heap_Heap_up (loopBody (codeAt (bodyOf 228) [true, false, false])) 24 := owed_of (cast (by kernel_rfl) m_heap_Heap_up_c24_ok)
theorem m_heap_Heap_up_l12_ok : Sound P (.loop (loopBody (codeAt (bodyOf 228) [true, false, false]))) m_heap_Heap_up_l12_E := by
  refine loop_sound (evCode_sound W2 O_m_heap_Heap_up (loopBody (codeAt (bodyOf 228) [true, false, false])) 24 m_heap_Heap_up_l12_owed) 47 [0, 1, 4] [(.exit 0, [0, 1, 4])] m_heap_Heap_up_l12 ?_ m_heap_Heap_up_l12_p m_heap_Heap_up_l12_pok
  intro vs w next out h
  unfold m_heap_Heap_up_l12 at h
  split at h
  · exact cast (by kernel_rfl) h
  · exact h.elim
theorem m_heap_Heap_up_owed : Owed P O_m_heap_Heap_up (bodyOf 228) 1 := owed_of (cast (by kernel_rfl) m_heap_Heap_up_l12_ok)
theorem m_heap_Heap_up_eq (h1 : Option Addr) (k2 : Int) (w0 : World) (K : Value → World → Prop) : m_heap_Heap_up h1 k2 w0 K = evCode T0 P O_m_heap_Heap_up (bodyOf 228) 1 (env0 (Array.toList #[(.pointer h1), (.int .i64 k2)]) (fnOf 228).ntmps) w0 (endK T0 (fnOf 228).results.toList K) := by kernel_rfl
theorem m_heap_Heap_up_ok {h1 : Option Addr} {k2 : Int} {w0 : World} {K : Value → World → Prop} (h : m_heap_Heap_up h1 k2 w0 K) : CallsV P 228 #[(.pointer h1), (.int .i64 k2)] w0 K :=
  func_sound W2 func_228 body_228 m_heap_Heap_up_owed (Eq.mp (m_heap_Heap_up_eq h1 k2 w0 K) h)


/-- (*overfall/heap.Heap).lay -/
def m_heap_Heap_lay (h1 : Option Addr) (k2 : Int) (e3 : Int) (e4 : Int) (e5 : Int) (w0 : World) (K : Value → World → Prop) : Prop :=
  Al #[(.int .i64 e3), (.int .u64 e4), (.int .i64 e5)] 377 w0 fun b6 w7 => Nn h1 fun h8 => ∃ (sA9 : Option Addr) (sL10 : Nat) (sC11 : Nat), World.cell? (World.drew w7) (h8.add 0) = some (.slice sA9 sL10 sC11) ∧ ∃ (n12 : Int), World.cell? (World.drew w7) ((⟨b6, 0, none⟩ : Addr).add 0) = some (.int .i64 n12) ∧ ∃ (n13 : Int), World.cell? (World.drew w7) ((⟨b6, 0, none⟩ : Addr).add 1) = some (.int .u64 n13) ∧ ∃ (n14 : Int), World.cell? (World.drew w7) ((⟨b6, 0, none⟩ : Addr).add 2) = some (.int .i64 n14) ∧ Ix sA9 sL10 k2 fun a15 => St ((a15.add (Int.toNat k2 * 3)).add 0) (.int .i64 n12) (World.drew w7) fun w16 => St ((a15.add (Int.toNat k2 * 3)).add 1) (.int .u64 n13) w16 fun w17 => St ((a15.add (Int.toNat k2 * 3)).add 2) (.int .i64 n14) w17 fun w18 => Nn h1 fun h19 => ∃ (sA20 : Option Addr) (sL21 : Nat) (sC22 : Nat), World.cell? (World.drew w18) (h19.add 1) = some (.slice sA20 sL21 sC22) ∧ ∃ (n23 : Int), World.cell? (World.drew w18) ((⟨b6, 0, none⟩ : Addr).add 2) = some (.int .i64 n23) ∧ Ix sA20 sL21 n23 fun a24 => St ((a24.add (Int.toNat n23 * 1)).add 0) (.int .i64 k2) (World.drew w18) fun w25 => K (.tuple #[]) w25

theorem func_247 : P.funcs[247]? = some (fnOf 247) := by kernel_rfl
theorem body_247 : (fnOf 247).body = some (bodyOf 247) := by kernel_rfl
theorem m_heap_Heap_lay_owed : Owed P O0 (bodyOf 247) 1 := owed_of (cast (by kernel_rfl) True.intro)
theorem m_heap_Heap_lay_eq (h1 : Option Addr) (k2 : Int) (e3 : Int) (e4 : Int) (e5 : Int) (w0 : World) (K : Value → World → Prop) : m_heap_Heap_lay h1 k2 e3 e4 e5 w0 K = evCode T0 P O0 (bodyOf 247) 1 (env0 (Array.toList #[(.pointer h1), (.int .i64 k2), (.agg #[(.int .i64 e3), (.int .u64 e4), (.int .i64 e5)])]) (fnOf 247).ntmps) w0 (endK T0 (fnOf 247).results.toList K) := by kernel_rfl
theorem m_heap_Heap_lay_ok {h1 : Option Addr} {k2 : Int} {e3 : Int} {e4 : Int} {e5 : Int} {w0 : World} {K : Value → World → Prop} (h : m_heap_Heap_lay h1 k2 e3 e4 e5 w0 K) : CallsV P 247 #[(.pointer h1), (.int .i64 k2), (.agg #[(.int .i64 e3), (.int .u64 e4), (.int .i64 e5)])] w0 K :=
  func_sound W2 func_247 body_247 m_heap_Heap_lay_owed (Eq.mp (m_heap_Heap_lay_eq h1 k2 e3 e4 e5 w0 K) h)


/-- overfall/heap.order -/
def m_heap_order (a1 : Int) (a2 : Int) (a3 : Int) (b4 : Int) (b5 : Int) (b6 : Int) (w0 : World) (K : Value → World → Prop) : Prop :=
  Al #[(.int .i64 a1), (.int .u64 a2), (.int .i64 a3)] 377 w0 fun b7 w8 => Al #[(.int .i64 b4), (.int .u64 b5), (.int .i64 b6)] 377 w8 fun b9 w10 => ∃ (n11 : Int), World.cell? (World.drew w10) ((⟨b7, 0, none⟩ : Addr).add 0) = some (.int .i64 n11) ∧ ∃ (n12 : Int), World.cell? (World.drew w10) ((⟨b9, 0, none⟩ : Addr).add 0) = some (.int .i64 n12) ∧ ∃ (n13 : Int), QCall P 259 #[(.int .i64 n11), (.int .i64 n12)] (World.drew w10) (.int .i64 n13) ∧ ∃ (n14 : Int), World.cell? (World.drew w10) ((⟨b7, 0, none⟩ : Addr).add 1) = some (.int .u64 n14) ∧ ∃ (n15 : Int), World.cell? (World.drew w10) ((⟨b9, 0, none⟩ : Addr).add 1) = some (.int .u64 n15) ∧ ∃ (n16 : Int), QCall P 260 #[(.int .u64 n14), (.int .u64 n15)] (World.drew w10) (.int .i64 n16) ∧ ∃ (n17 : Int), World.cell? (World.drew w10) ((⟨b7, 0, none⟩ : Addr).add 2) = some (.int .i64 n17) ∧ ∃ (n18 : Int), World.cell? (World.drew w10) ((⟨b9, 0, none⟩ : Addr).add 2) = some (.int .i64 n18) ∧ ∃ (n19 : Int), QCall P 261 #[(.int .i64 n17), (.int .i64 n18)] (World.drew w10) (.int .i64 n19) ∧ ∀ w20 : World, Below (World.heap (World.drew w10)).size (World.drew w10) w20 → Al #[(.int .i64 n13), (.int .i64 n16), (.int .i64 n19)] 3 w20 fun b21 w22 => ∃ (n23 : Int), QCall P 258 #[(.slice (some (⟨b21, 0, none⟩ : Addr)) 3 3)] (w22) (.int .i64 n23) ∧ ∀ w24 : World, Below (World.heap (w22)).size (w22) w24 → K (.int .i64 n23) w24

theorem func_237 : P.funcs[237]? = some (fnOf 237) := by kernel_rfl
theorem body_237 : (fnOf 237).body = some (bodyOf 237) := by kernel_rfl
theorem m_heap_order_owed : Owed P O0 (bodyOf 237) 1 := owed_of (cast (by kernel_rfl) True.intro)
theorem m_heap_order_eq (a1 : Int) (a2 : Int) (a3 : Int) (b4 : Int) (b5 : Int) (b6 : Int) (w0 : World) (K : Value → World → Prop) : m_heap_order a1 a2 a3 b4 b5 b6 w0 K = evCode T0 P O0 (bodyOf 237) 1 (env0 (Array.toList #[(.agg #[(.int .i64 a1), (.int .u64 a2), (.int .i64 a3)]), (.agg #[(.int .i64 b4), (.int .u64 b5), (.int .i64 b6)])]) (fnOf 237).ntmps) w0 (endK T0 (fnOf 237).results.toList K) := by kernel_rfl
theorem m_heap_order_ok {a1 : Int} {a2 : Int} {a3 : Int} {b4 : Int} {b5 : Int} {b6 : Int} {w0 : World} {K : Value → World → Prop} (h : m_heap_order a1 a2 a3 b4 b5 b6 w0 K) : CallsV P 237 #[(.agg #[(.int .i64 a1), (.int .u64 a2), (.int .i64 a3)]), (.agg #[(.int .i64 b4), (.int .u64 b5), (.int .i64 b6)])] w0 K :=
  func_sound W2 func_237 body_237 m_heap_order_owed (Eq.mp (m_heap_order_eq a1 a2 a3 b4 b5 b6 w0 K) h)


def m_heap_Heap_below_c3 (vs : List Value) (w0 : World) (out : Nat × List Value → World → Prop) : Prop :=
  match vs with
  | [.pointer h17, .int .i64 k18, .int .i64 key19, .slice outA20 outL21 outC22] => Nn h17 fun h23 => ∃ (sA24 : Option Addr) (sL25 : Nat) (sC26 : Nat), World.cell? w0 (h23.add 0) = some (.slice sA24 sL25 sC26) ∧ Ix sA24 sL25 k18 fun a27 => ∃ (n28 : Int), World.cell? w0 ((a27.add (Int.toNat k18 * 3)).add 0) = some (.int .i64 n28) ∧ ∃ (n29 : Int), World.cell? w0 ((a27.add (Int.toNat k18 * 3)).add 1) = some (.int .u64 n29) ∧ ∃ (n30 : Int), World.cell? w0 ((a27.add (Int.toNat k18 * 3)).add 2) = some (.int .i64 n30) ∧ Al #[(.int .i64 n28), (.int .u64 n29), (.int .i64 n30)] 377 w0 fun b31 w32 => RunB P .append #[322, 322] 322 #[false, false] #[(.slice outA20 outL21 outC22), (.slice (some (⟨b31, 0, none⟩ : Addr)) 1 1)] w32 fun v33 w34 => ∃ (sA35 : Option Addr) (sL36 : Nat) (sC37 : Nat), v33 = (.slice sA35 sL36 sC37) ∧ CallsV P 235 #[(.pointer h17), (.int .i64 (IntKind.wrap .i64 ((IntKind.wrap .i64 (2 * k18)) + 1))), (.int .i64 key19), (.slice sA35 sL36 sC37)] w34 fun v38 w39 => ∃ (sA40 : Option Addr) (sL41 : Nat) (sC42 : Nat), v38 = (.slice sA40 sL41 sC42) ∧ CallsV P 235 #[(.pointer h17), (.int .i64 (IntKind.wrap .i64 ((IntKind.wrap .i64 (2 * k18)) + 2))), (.int .i64 key19), (.slice sA40 sL41 sC42)] w39 fun v43 w44 => ∃ (sA45 : Option Addr) (sL46 : Nat) (sC47 : Nat), v43 = (.slice sA45 sL46 sC47) ∧ out (0, [(.slice sA45 sL46 sC47)]) w44
  | _ => False

def m_heap_Heap_below_c3_o (y : Nat × List Value) (k0 : Option Addr → Nat → Nat → Prop) : Prop :=
  match y with
  | (0, [.slice sA48 sL49 sC50]) => k0 sA48 sL49 sC50
  | _ => False

/-- (*overfall/heap.Heap).below -/
def m_heap_Heap_below (h1 : Option Addr) (k2 : Int) (key3 : Int) (outA4 : Option Addr) (outL5 : Nat) (outC6 : Nat) (w0 : World) (K : Value → World → Prop) : Prop :=
  Nn h1 fun h7 => ∃ (sA8 : Option Addr) (sL9 : Nat) (sC10 : Nat), World.cell? w0 (h7.add 0) = some (.slice sA8 sL9 sC10) ∧ (if (decide (((sL9 : Nat) : Int) ≤ k2)) = true then K (.slice outA4 outL5 outC6) w0 else Nn h1 fun h11 => ∃ (sA12 : Option Addr) (sL13 : Nat) (sC14 : Nat), World.cell? w0 (h11.add 0) = some (.slice sA12 sL13 sC14) ∧ Ix sA12 sL13 k2 fun a15 => ∃ (n16 : Int), World.cell? w0 ((a15.add (Int.toNat k2 * 3)).add 0) = some (.int .i64 n16) ∧ (if (decide (key3 < n16)) = true then K (.slice outA4 outL5 outC6) w0 else m_heap_Heap_below_c3 [(.pointer h1), (.int .i64 k2), (.int .i64 key3), (.slice outA4 outL5 outC6)] w0 fun y52 w51 => m_heap_Heap_below_c3_o y52 (fun sA53 sL54 sC55 => K (.slice sA53 sL54 sC55) w51)))

theorem func_235 : P.funcs[235]? = some (fnOf 235) := by kernel_rfl
theorem body_235 : (fnOf 235).body = some (bodyOf 235) := by kernel_rfl
def m_heap_Heap_below_c3_p (y : Nat × List Value) (k : Nat × List Value → Prop) : Prop := m_heap_Heap_below_c3_o y (fun sA48 sL49 sC50 => k (0, [(.slice sA48 sL49 sC50)]))
theorem m_heap_Heap_below_c3_pok : ∀ y k, m_heap_Heap_below_c3_p y k → k y := by
  intro y k h
  unfold m_heap_Heap_below_c3_p m_heap_Heap_below_c3_o at h
  split at h <;> first | exact h | exact h.elim
def m_heap_Heap_below_c3_E : Env → World → Kont → Prop := (fun e w k => takeK 52 [0, 1, 2, 3] e fun vs => m_heap_Heap_below_c3 vs w fun y w => m_heap_Heap_below_c3_p y fun y => outK 52 [(.ret, [8])] k y w)
def O_m_heap_Heap_below : Orac := { loop := fun p => (fun _ _ _ => False), cut := fun p => cond (Nat.beq p 3) (some m_heap_Heap_below_c3_E) (none) }
theorem m_heap_Heap_below_c3_owed : Owed P O_m_heap_Heap_below (codeAt (bodyOf 235) [true, true]) 7 := owed_of (cast (by kernel_rfl) True.intro)
theorem m_heap_Heap_below_c3_ok : Sound P (codeAt (bodyOf 235) [true, true]) m_heap_Heap_below_c3_E := by
  refine piece_sound (evCode_sound W2 O_m_heap_Heap_below (codeAt (bodyOf 235) [true, true]) 7 m_heap_Heap_below_c3_owed) 52 [0, 1, 2, 3] [(.ret, [8])] m_heap_Heap_below_c3 ?_ m_heap_Heap_below_c3_p m_heap_Heap_below_c3_pok
  intro vs w out h
  unfold m_heap_Heap_below_c3 at h
  split at h
  · exact cast (by kernel_rfl) h
  · exact h.elim
theorem m_heap_Heap_below_owed : Owed P O_m_heap_Heap_below (bodyOf 235) 1 := owed_of (cast (by kernel_rfl) m_heap_Heap_below_c3_ok)
theorem m_heap_Heap_below_eq (h1 : Option Addr) (k2 : Int) (key3 : Int) (outA4 : Option Addr) (outL5 : Nat) (outC6 : Nat) (w0 : World) (K : Value → World → Prop) : m_heap_Heap_below h1 k2 key3 outA4 outL5 outC6 w0 K = evCode T0 P O_m_heap_Heap_below (bodyOf 235) 1 (env0 (Array.toList #[(.pointer h1), (.int .i64 k2), (.int .i64 key3), (.slice outA4 outL5 outC6)]) (fnOf 235).ntmps) w0 (endK T0 (fnOf 235).results.toList K) := by kernel_rfl
theorem m_heap_Heap_below_ok {h1 : Option Addr} {k2 : Int} {key3 : Int} {outA4 : Option Addr} {outL5 : Nat} {outC6 : Nat} {w0 : World} {K : Value → World → Prop} (h : m_heap_Heap_below h1 k2 key3 outA4 outL5 outC6 w0 K) : CallsV P 235 #[(.pointer h1), (.int .i64 k2), (.int .i64 key3), (.slice outA4 outL5 outC6)] w0 K :=
  func_sound W2 func_235 body_235 m_heap_Heap_below_owed (Eq.mp (m_heap_Heap_below_eq h1 k2 key3 outA4 outL5 outC6 w0 K) h)


def m_heap_Heap_Due_l506 (vs : List Value) (w0 : World) (next : List Value → World → Prop) (out : Nat × List Value → World → Prop) : Prop :=
  match vs with
  | [.slice outA10 outL11 outC12, .slice sA13 sL14 sC15, .int .i64 n16, .int .i64 n17] => (if (decide (n17 < n16)) = true then Ix sA13 sL14 n17 fun a18 => ∃ (n19 : Int), World.cell? w0 ((a18.add (Int.toNat n17 * 3)).add 0) = some (.int .i64 n19) ∧ ∃ (n20 : Int), World.cell? w0 ((a18.add (Int.toNat n17 * 3)).add 1) = some (.int .u64 n20) ∧ ∃ (n21 : Int), World.cell? w0 ((a18.add (Int.toNat n17 * 3)).add 2) = some (.int .i64 n21) ∧ Al #[(.int .i64 0), (.int .u64 0), (.int .i64 0)] 377 w0 fun b22 w23 => St ((⟨b22, 0, none⟩ : Addr).add 0) (.int .i64 n19) w23 fun w24 => St ((⟨b22, 0, none⟩ : Addr).add 1) (.int .u64 n20) w24 fun w25 => St ((⟨b22, 0, none⟩ : Addr).add 2) (.int .i64 n21) w25 fun w26 => ∃ (n27 : Int), World.cell? w26 ((⟨b22, 0, none⟩ : Addr).add 2) = some (.int .i64 n27) ∧ Al #[(.int .i64 n27)] 3 w26 fun b28 w29 => RunB P .append #[47, 47] 47 #[false, false] #[(.slice outA10 outL11 outC12), (.slice (some (⟨b28, 0, none⟩ : Addr)) 1 1)] w29 fun v30 w31 => ∃ (sA32 : Option Addr) (sL33 : Nat) (sC34 : Nat), v30 = (.slice sA32 sL33 sC34) ∧ next [(.slice sA32 sL33 sC34), (.slice sA13 sL14 sC15), (.int .i64 n16), (.int .i64 (IntKind.wrap .i64 (n17 + 1)))] w31 else out (0, [(.slice outA10 outL11 outC12)]) w0)
  | _ => False

def m_heap_Heap_Due_l506_o (y : Nat × List Value) (k0 : Option Addr → Nat → Nat → Prop) : Prop :=
  match y with
  | (0, [.slice outA35 outL36 outC37]) => k0 outA35 outL36 outC37
  | _ => False

/-- (*overfall/heap.Heap).Due -/
def m_heap_Heap_Due (h1 : Option Addr) (key2 : Int) (w0 : World) (K : Value → World → Prop) : Prop :=
  (if (Option.isNone h1) = true then K (.slice none 0 0) w0 else CallsV P 235 #[(.pointer h1), (.int .i64 0), (.int .i64 key2), (.slice none 0 0)] w0 fun v3 w4 => ∃ (sA5 : Option Addr) (sL6 : Nat) (sC7 : Nat), v3 = (.slice sA5 sL6 sC7) ∧ CallsV P 236 #[(.slice sA5 sL6 sC7), (.func (.func 237) #[] #[])] w4 fun v8 w9 => v8 = (.tuple #[]) ∧ LoopP m_heap_Heap_Due_l506 [(.slice none 0 0), (.slice sA5 sL6 sC7), (.int .i64 ((sL6 : Nat) : Int)), (.int .i64 0)] w9 fun y39 w38 => m_heap_Heap_Due_l506_o y39 (fun outA40 outL41 outC42 => K (.slice outA40 outL41 outC42) w38))

theorem func_199 : P.funcs[199]? = some (fnOf 199) := by kernel_rfl
theorem body_199 : (fnOf 199).body = some (bodyOf 199) := by kernel_rfl
def m_heap_Heap_Due_l506_p (y : Nat × List Value) (k : Nat × List Value → Prop) : Prop := m_heap_Heap_Due_l506_o y (fun outA35 outL36 outC37 => k (0, [(.slice outA35 outL36 outC37)]))
theorem m_heap_Heap_Due_l506_pok : ∀ y k, m_heap_Heap_Due_l506_p y k → k y := by
  intro y k h
  unfold m_heap_Heap_Due_l506_p m_heap_Heap_Due_l506_o at h
  split at h <;> first | exact h | exact h.elim
def m_heap_Heap_Due_l506_E : Env → World → Kont → Prop := (fun e w k => takeK 29 [6, 16, 17, 18] e fun vs => LoopP m_heap_Heap_Due_l506 vs w fun y w => m_heap_Heap_Due_l506_p y fun y => outK 29 [(.exit 0, [6])] k y w)
def O_m_heap_Heap_Due : Orac := { loop := fun p => cond (Nat.beq p 506) m_heap_Heap_Due_l506_E ((fun _ _ _ => False)), cut := fun p => none }
theorem m_heap_Heap_Due_l506_owed : Owed P O_m_heap_Heap_Due (loopBody (codeAt (bodyOf 199) [true, true, true, true, true, false, true, false])) 1012 := owed_of (cast (by kernel_rfl) True.intro)
theorem m_heap_Heap_Due_l506_ok : Sound P (.loop (loopBody (codeAt (bodyOf 199) [true, true, true, true, true, false, true, false]))) m_heap_Heap_Due_l506_E := by
  refine loop_sound (evCode_sound W2 O_m_heap_Heap_Due (loopBody (codeAt (bodyOf 199) [true, true, true, true, true, false, true, false])) 1012 m_heap_Heap_Due_l506_owed) 29 [6, 16, 17, 18] [(.exit 0, [6])] m_heap_Heap_Due_l506 ?_ m_heap_Heap_Due_l506_p m_heap_Heap_Due_l506_pok
  intro vs w next out h
  unfold m_heap_Heap_Due_l506 at h
  split at h
  · exact cast (by kernel_rfl) h
  · exact h.elim
theorem m_heap_Heap_Due_owed : Owed P O_m_heap_Heap_Due (bodyOf 199) 1 := owed_of (cast (by kernel_rfl) m_heap_Heap_Due_l506_ok)
theorem m_heap_Heap_Due_eq (h1 : Option Addr) (key2 : Int) (w0 : World) (K : Value → World → Prop) : m_heap_Heap_Due h1 key2 w0 K = evCode T0 P O_m_heap_Heap_Due (bodyOf 199) 1 (env0 (Array.toList #[(.pointer h1), (.int .i64 key2)]) (fnOf 199).ntmps) w0 (endK T0 (fnOf 199).results.toList K) := by kernel_rfl
theorem m_heap_Heap_Due_ok {h1 : Option Addr} {key2 : Int} {w0 : World} {K : Value → World → Prop} (h : m_heap_Heap_Due h1 key2 w0 K) : CallsV P 199 #[(.pointer h1), (.int .i64 key2)] w0 K :=
  func_sound W2 func_199 body_199 m_heap_Heap_Due_owed (Eq.mp (m_heap_Heap_Due_eq h1 key2 w0 K) h)


/-- (*overfall/heap.Heap).Remove -/
def m_heap_Heap_Remove (h1 : Option Addr) (i2 : Int) (w0 : World) (K : Value → World → Prop) : Prop :=
  (if (Option.isNone h1) = true then K (.int .i64 3) w0 else CallsV P 227 #[(.pointer h1), (.int .i64 i2)] w0 fun v3 w4 => ∃ (b5 : Bool), v3 = (.bool b5) ∧ (if (!b5) = true then K (.int .i64 1) w4 else Nn h1 fun h6 => ∃ (sA7 : Option Addr) (sL8 : Nat) (sC9 : Nat), World.cell? w4 (h6.add 1) = some (.slice sA7 sL8 sC9) ∧ Ix sA7 sL8 i2 fun a10 => ∃ (n11 : Int), World.cell? w4 (a10.add (Int.toNat i2 * 1)) = some (.int .i64 n11) ∧ (if (decide (n11 = (-1))) = true then K (.int .i64 3) w4 else Nn h1 fun h12 => ∃ (sA13 : Option Addr) (sL14 : Nat) (sC15 : Nat), World.cell? (World.drew w4) (h12.add 1) = some (.slice sA13 sL14 sC15) ∧ Ix sA13 sL14 i2 fun a16 => ∃ (n17 : Int), World.cell? (World.drew w4) (a16.add (Int.toNat i2 * 1)) = some (.int .i64 n17) ∧ Nn h1 fun h18 => ∃ (sA19 : Option Addr) (sL20 : Nat) (sC21 : Nat), World.cell? (World.drew w4) (h18.add 0) = some (.slice sA19 sL20 sC21) ∧ Nn h1 fun h22 => ∃ (sA23 : Option Addr) (sL24 : Nat) (sC25 : Nat), World.cell? (World.drew w4) (h22.add 0) = some (.slice sA23 sL24 sC25) ∧ Ix sA23 sL24 (IntKind.wrap .i64 (((sL20 : Nat) : Int) - 1)) fun a26 => ∃ (n27 : Int), World.cell? (World.drew w4) ((a26.add (Int.toNat (IntKind.wrap .i64 (((sL20 : Nat) : Int) - 1)) * 3)).add 0) = some (.int .i64 n27) ∧ ∃ (n28 : Int), World.cell? (World.drew w4) ((a26.add (Int.toNat (IntKind.wrap .i64 (((sL20 : Nat) : Int) - 1)) * 3)).add 1) = some (.int .u64 n28) ∧ ∃ (n29 : Int), World.cell? (World.drew w4) ((a26.add (Int.toNat (IntKind.wrap .i64 (((sL20 : Nat) : Int) - 1)) * 3)).add 2) = some (.int .i64 n29) ∧ Al #[(.int .i64 0), (.int .u64 0), (.int .i64 0)] 377 (World.drew w4) fun b30 w31 => St ((⟨b30, 0, none⟩ : Addr).add 0) (.int .i64 n27) w31 fun w32 => St ((⟨b30, 0, none⟩ : Addr).add 1) (.int .u64 n28) w32 fun w33 => St ((⟨b30, 0, none⟩ : Addr).add 2) (.int .i64 n29) w33 fun w34 => Nn h1 fun h35 => ∃ (sA36 : Option Addr) (sL37 : Nat) (sC38 : Nat), World.cell? w34 (h35.add 0) = some (.slice sA36 sL37 sC38) ∧ Run P (Instr.sliceAt 322 (.slice sA36 sL37 sC38) none (some (.int .i64 (IntKind.wrap .i64 (((sL20 : Nat) : Int) - 1)))) none) w34 fun v39 w40 => ∃ (sA41 : Option Addr) (sL42 : Nat) (sC43 : Nat), v39 = (.slice sA41 sL42 sC43) ∧ Nn h1 fun h44 => St ((h44.add 0).add 0) (.slice sA41 sL42 sC43) w40 fun w45 => Nn h1 fun h46 => ∃ (sA47 : Option Addr) (sL48 : Nat) (sC49 : Nat), World.cell? w45 (h46.add 1) = some (.slice sA47 sL48 sC49) ∧ Ix sA47 sL48 i2 fun a50 => St ((a50.add (Int.toNat i2 * 1)).add 0) (.int .i64 (-1)) w45 fun w51 => (if (decide (n17 = (IntKind.wrap .i64 (((sL20 : Nat) : Int) - 1)))) = true then K (.int .i64 0) w51 else ∃ (n52 : Int), World.cell? w51 ((⟨b30, 0, none⟩ : Addr).add 0) = some (.int .i64 n52) ∧ ∃ (n53 : Int), World.cell? w51 ((⟨b30, 0, none⟩ : Addr).add 1) = some (.int .u64 n53) ∧ ∃ (n54 : Int), World.cell? w51 ((⟨b30, 0, none⟩ : Addr).add 2) = some (.int .i64 n54) ∧ CallsV P 247 #[(.pointer h1), (.int .i64 n17), (.agg #[(.int .i64 n52), (.int .u64 n53), (.int .i64 n54)])] w51 fun v55 w56 => v55 = (.tuple #[]) ∧ CallsV P 228 #[(.pointer h1), (.int .i64 n17)] w56 fun v57 w58 => v57 = (.tuple #[]) ∧ Nn h1 fun h59 => ∃ (sA60 : Option Addr) (sL61 : Nat) (sC62 : Nat), World.cell? (World.drew w58) (h59.add 1) = some (.slice sA60 sL61 sC62) ∧ ∃ (n63 : Int), World.cell? (World.drew w58) ((⟨b30, 0, none⟩ : Addr).add 2) = some (.int .i64 n63) ∧ Ix sA60 sL61 n63 fun a64 => ∃ (n65 : Int), World.cell? (World.drew w58) (a64.add (Int.toNat n63 * 1)) = some (.int .i64 n65) ∧ CallsV P 248 #[(.pointer h1), (.int .i64 n65)] (World.drew w58) fun v66 w67 => v66 = (.tuple #[]) ∧ K (.int .i64 0) w67))))

theorem func_224 : P.funcs[224]? = some (fnOf 224) := by kernel_rfl
theorem body_224 : (fnOf 224).body = some (bodyOf 224) := by kernel_rfl
theorem m_heap_Heap_Remove_owed : Owed P O0 (bodyOf 224) 1 := owed_of (cast (by kernel_rfl) True.intro)
theorem m_heap_Heap_Remove_eq (h1 : Option Addr) (i2 : Int) (w0 : World) (K : Value → World → Prop) : m_heap_Heap_Remove h1 i2 w0 K = evCode T0 P O0 (bodyOf 224) 1 (env0 (Array.toList #[(.pointer h1), (.int .i64 i2)]) (fnOf 224).ntmps) w0 (endK T0 (fnOf 224).results.toList K) := by kernel_rfl
theorem m_heap_Heap_Remove_ok {h1 : Option Addr} {i2 : Int} {w0 : World} {K : Value → World → Prop} (h : m_heap_Heap_Remove h1 i2 w0 K) : CallsV P 224 #[(.pointer h1), (.int .i64 i2)] w0 K :=
  func_sound W2 func_224 body_224 m_heap_Heap_Remove_owed (Eq.mp (m_heap_Heap_Remove_eq h1 i2 w0 K) h)


def m_heap_Heap_down_c195 (vs : List Value) (w0 : World) (out : Nat × List Value → World → Prop) : Prop :=
  match vs with
  | [.pointer h62, .int .i64 k63, .pointer (some e64), .int .i64 c65] => Nn h62 fun h66 => ∃ (sA67 : Option Addr) (sL68 : Nat) (sC69 : Nat), World.cell? w0 (h66.add 0) = some (.slice sA67 sL68 sC69) ∧ Ix sA67 sL68 c65 fun a70 => ∃ (n71 : Int), World.cell? w0 ((a70.add (Int.toNat c65 * 3)).add 0) = some (.int .i64 n71) ∧ ∃ (n72 : Int), World.cell? w0 ((a70.add (Int.toNat c65 * 3)).add 1) = some (.int .u64 n72) ∧ ∃ (n73 : Int), World.cell? w0 ((a70.add (Int.toNat c65 * 3)).add 2) = some (.int .i64 n73) ∧ CallsV P 247 #[(.pointer h62), (.int .i64 k63), (.agg #[(.int .i64 n71), (.int .u64 n72), (.int .i64 n73)])] w0 fun v74 w75 => v74 = (.tuple #[]) ∧ out (0, [(.pointer h62), (.int .i64 c65), (.pointer (some e64))]) w75
  | _ => False

def m_heap_Heap_down_c195_o (y : Nat × List Value) (k0 : Option Addr → Int → Addr → Prop) : Prop :=
  match y with
  | (0, [.pointer h76, .int .i64 k77, .pointer (some e78)]) => k0 h76 k77 e78
  | _ => False

def m_heap_Heap_down_c97 (vs : List Value) (w0 : World) (out : Nat × List Value → World → Prop) : Prop :=
  match vs with
  | [.pointer h41, .int .i64 k42, .pointer (some e43), .int .i64 c44] => Nn h41 fun h45 => ∃ (sA46 : Option Addr) (sL47 : Nat) (sC48 : Nat), World.cell? (World.drew w0) (h45.add 0) = some (.slice sA46 sL47 sC48) ∧ (if (decide (((sL47 : Nat) : Int) ≤ c44)) = true then out (0, [(.pointer h41), (.int .i64 k42), (.pointer (some e43))]) (World.drew w0) else ∃ (n49 : Int), World.cell? (World.drew w0) (e43.add 0) = some (.int .i64 n49) ∧ ∃ (n50 : Int), World.cell? (World.drew w0) (e43.add 1) = some (.int .u64 n50) ∧ ∃ (n51 : Int), World.cell? (World.drew w0) (e43.add 2) = some (.int .i64 n51) ∧ Nn h41 fun h52 => ∃ (sA53 : Option Addr) (sL54 : Nat) (sC55 : Nat), World.cell? (World.drew w0) (h52.add 0) = some (.slice sA53 sL54 sC55) ∧ Ix sA53 sL54 c44 fun a56 => ∃ (n57 : Int), World.cell? (World.drew w0) ((a56.add (Int.toNat c44 * 3)).add 0) = some (.int .i64 n57) ∧ ∃ (n58 : Int), World.cell? (World.drew w0) ((a56.add (Int.toNat c44 * 3)).add 1) = some (.int .u64 n58) ∧ ∃ (n59 : Int), World.cell? (World.drew w0) ((a56.add (Int.toNat c44 * 3)).add 2) = some (.int .i64 n59) ∧ ∃ (n60 : Int), QCall P 237 #[(.agg #[(.int .i64 n49), (.int .u64 n50), (.int .i64 n51)]), (.agg #[(.int .i64 n57), (.int .u64 n58), (.int .i64 n59)])] (World.drew w0) (.int .i64 n60) ∧ ∀ w61 : World, Below (World.heap (World.drew w0)).size (World.drew w0) w61 → (if (decide (n60 ≤ 0)) = true then out (0, [(.pointer h41), (.int .i64 k42), (.pointer (some e43))]) w61 else m_heap_Heap_down_c195 [(.pointer h41), (.int .i64 k42), (.pointer (some e43)), (.int .i64 c44)] w61 fun y80 w79 => m_heap_Heap_down_c195_o y80 (fun h81 k82 e83 => out (1, [(.pointer h81), (.int .i64 k82), (.pointer (some e83))]) w79)))
  | _ => False

def m_heap_Heap_down_c97_o (y : Nat × List Value) (k0 : Option Addr → Int → Addr → Prop) (k1 : Option Addr → Int → Addr → Prop) : Prop :=
  match y with
  | (0, [.pointer h84, .int .i64 k85, .pointer (some e86)]) => k0 h84 k85 e86
  | (1, [.pointer h87, .int .i64 k88, .pointer (some e89)]) => k1 h87 k88 e89
  | _ => False

def m_heap_Heap_down_l12 (vs : List Value) (w0 : World) (next : List Value → World → Prop) (out : Nat × List Value → World → Prop) : Prop :=
  match vs with
  | [.pointer h16, .int .i64 k17, .pointer (some e18)] => Nn h16 fun h19 => ∃ (sA20 : Option Addr) (sL21 : Nat) (sC22 : Nat), World.cell? (World.drew w0) (h19.add 0) = some (.slice sA20 sL21 sC22) ∧ (if (decide ((IntKind.wrap .i64 ((IntKind.wrap .i64 ((IntKind.wrap .i64 (2 * k17)) + 1)) + 1)) < ((sL21 : Nat) : Int))) = true then Nn h16 fun h23 => ∃ (sA24 : Option Addr) (sL25 : Nat) (sC26 : Nat), World.cell? (World.drew w0) (h23.add 0) = some (.slice sA24 sL25 sC26) ∧ Ix sA24 sL25 (IntKind.wrap .i64 ((IntKind.wrap .i64 ((IntKind.wrap .i64 (2 * k17)) + 1)) + 1)) fun a27 => ∃ (n28 : Int), World.cell? (World.drew w0) ((a27.add (Int.toNat (IntKind.wrap .i64 ((IntKind.wrap .i64 ((IntKind.wrap .i64 (2 * k17)) + 1)) + 1)) * 3)).add 0) = some (.int .i64 n28) ∧ ∃ (n29 : Int), World.cell? (World.drew w0) ((a27.add (Int.toNat (IntKind.wrap .i64 ((IntKind.wrap .i64 ((IntKind.wrap .i64 (2 * k17)) + 1)) + 1)) * 3)).add 1) = some (.int .u64 n29) ∧ ∃ (n30 : Int), World.cell? (World.drew w0) ((a27.add (Int.toNat (IntKind.wrap .i64 ((IntKind.wrap .i64 ((IntKind.wrap .i64 (2 * k17)) + 1)) + 1)) * 3)).add 2) = some (.int .i64 n30) ∧ Nn h16 fun h31 => ∃ (sA32 : Option Addr) (sL33 : Nat) (sC34 : Nat), World.cell? (World.drew w0) (h31.add 0) = some (.slice sA32 sL33 sC34) ∧ Ix sA32 sL33 (IntKind.wrap .i64 ((IntKind.wrap .i64 (2 * k17)) + 1)) fun a35 => ∃ (n36 : Int), World.cell? (World.drew w0) ((a35.add (Int.toNat (IntKind.wrap .i64 ((IntKind.wrap .i64 (2 * k17)) + 1)) * 3)).add 0) = some (.int .i64 n36) ∧ ∃ (n37 : Int), World.cell? (World.drew w0) ((a35.add (Int.toNat (IntKind.wrap .i64 ((IntKind.wrap .i64 (2 * k17)) + 1)) * 3)).add 1) = some (.int .u64 n37) ∧ ∃ (n38 : Int), World.cell? (World.drew w0) ((a35.add (Int.toNat (IntKind.wrap .i64 ((IntKind.wrap .i64 (2 * k17)) + 1)) * 3)).add 2) = some (.int .i64 n38) ∧ ∃ (n39 : Int), QCall P 237 #[(.agg #[(.int .i64 n28), (.int .u64 n29), (.int .i64 n30)]), (.agg #[(.int .i64 n36), (.int .u64 n37), (.int .i64 n38)])] (World.drew w0) (.int .i64 n39) ∧ ∀ w40 : World, Below (World.heap (World.drew w0)).size (World.drew w0) w40 → (if (decide (n39 < 0)) = true then m_heap_Heap_down_c97 [(.pointer h16), (.int .i64 k17), (.pointer (some e18)), (.int .i64 (IntKind.wrap .i64 ((IntKind.wrap .i64 ((IntKind.wrap .i64 (2 * k17)) + 1)) + 1)))] w40 fun y91 w90 => m_heap_Heap_down_c97_o y91 (fun h92 k93 e94 => out (0, [(.pointer h92), (.int .i64 k93), (.pointer (some e94))]) w90) (fun h95 k96 e97 => next [(.pointer h95), (.int .i64 k96), (.pointer (some e97))] w90) else m_heap_Heap_down_c97 [(.pointer h16), (.int .i64 k17), (.pointer (some e18)), (.int .i64 (IntKind.wrap .i64 ((IntKind.wrap .i64 (2 * k17)) + 1)))] w40 fun y99 w98 => m_heap_Heap_down_c97_o y99 (fun h100 k101 e102 => out (0, [(.pointer h100), (.int .i64 k101), (.pointer (some e102))]) w98) (fun h103 k104 e105 => next [(.pointer h103), (.int .i64 k104), (.pointer (some e105))] w98)) else m_heap_Heap_down_c97 [(.pointer h16), (.int .i64 k17), (.pointer (some e18)), (.int .i64 (IntKind.wrap .i64 ((IntKind.wrap .i64 (2 * k17)) + 1)))] (World.drew w0) fun y107 w106 => m_heap_Heap_down_c97_o y107 (fun h108 k109 e110 => out (0, [(.pointer h108), (.int .i64 k109), (.pointer (some e110))]) w106) (fun h111 k112 e113 => next [(.pointer h111), (.int .i64 k112), (.pointer (some e113))] w106))
  | _ => False

def m_heap_Heap_down_l12_o (y : Nat × List Value) (k0 : Option Addr → Int → Addr → Prop) : Prop :=
  match y with
  | (0, [.pointer h114, .int .i64 k115, .pointer (some e116)]) => k0 h114 k115 e116
  | _ => False

/-- (*overfall/heap.Heap).down -/
def m_heap_Heap_down (h1 : Option Addr) (k2 : Int) (w0 : World) (K : Value → World → Prop) : Prop :=
  Nn h1 fun h3 => ∃ (sA4 : Option Addr) (sL5 : Nat) (sC6 : Nat), World.cell? w0 (h3.add 0) = some (.slice sA4 sL5 sC6) ∧ Ix sA4 sL5 k2 fun a7 => ∃ (n8 : Int), World.cell? w0 ((a7.add (Int.toNat k2 * 3)).add 0) = some (.int .i64 n8) ∧ ∃ (n9 : Int), World.cell? w0 ((a7.add (Int.toNat k2 * 3)).add 1) = some (.int .u64 n9) ∧ ∃ (n10 : Int), World.cell? w0 ((a7.add (Int.toNat k2 * 3)).add 2) = some (.int .i64 n10) ∧ Al #[(.int .i64 0), (.int .u64 0), (.int .i64 0)] 377 w0 fun b11 w12 => St ((⟨b11, 0, none⟩ : Addr).add 0) (.int .i64 n8) w12 fun w13 => St ((⟨b11, 0, none⟩ : Addr).add 1) (.int .u64 n9) w13 fun w14 => St ((⟨b11, 0, none⟩ : Addr).add 2) (.int .i64 n10) w14 fun w15 => LoopP m_heap_Heap_down_l12 [(.pointer h1), (.int .i64 k2), (.pointer (some (⟨b11, 0, none⟩ : Addr)))] w15 fun y118 w117 => m_heap_Heap_down_l12_o y118 (fun h119 k120 e121 => ∃ (n122 : Int), World.cell? w117 (e121.add 0) = some (.int .i64 n122) ∧ ∃ (n123 : Int), World.cell? w117 (e121.add 1) = some (.int .u64 n123) ∧ ∃ (n124 : Int), World.cell? w117 (e121.add 2) = some (.int .i64 n124) ∧ CallsV P 247 #[(.pointer h119), (.int .i64 k120), (.agg #[(.int .i64 n122), (.int .u64 n123), (.int .i64 n124)])] w117 fun v125 w126 => v125 = (.tuple #[]) ∧ K (.tuple #[]) w126)

theorem func_248 : P.funcs[248]? = some (fnOf 248) := by kernel_rfl
theorem body_248 : (fnOf 248).body = some (bodyOf 248) := by kernel_rfl
def m_heap_Heap_down_l12_p (y : Nat × List Value) (k : Nat × List Value → Prop) : Prop := m_heap_Heap_down_l12_o y (fun h114 k115 e116 => k (0, [(.pointer h114), (.int .i64 k115), (.pointer (some e116))]))
theorem m_heap_Heap_down_l12_pok : ∀ y k, m_heap_Heap_down_l12_p y k → k y := by
  intro y k h
  unfold m_heap_Heap_down_l12_p m_heap_Heap_down_l12_o at h
  split at h <;> first | exact h | exact h.elim
def m_heap_Heap_down_c97_p (y : Nat × List Value) (k : Nat × List Value → Prop) : Prop := m_heap_Heap_down_c97_o y (fun h84 k85 e86 => k (0, [(.pointer h84), (.int .i64 k85), (.pointer (some e86))])) (fun h87 k88 e89 => k (1, [(.pointer h87), (.int .i64 k88), (.pointer (some e89))]))
theorem m_heap_Heap_down_c97_pok : ∀ y k, m_heap_Heap_down_c97_p y k → k y := by
  intro y k h
  unfold m_heap_Heap_down_c97_p m_heap_Heap_down_c97_o at h
  split at h <;> first | exact h | exact h.elim
def m_heap_Heap_down_c195_p (y : Nat × List Value) (k : Nat × List Value → Prop) : Prop := m_heap_Heap_down_c195_o y (fun h76 k77 e78 => k (0, [(.pointer h76), (.int .i64 k77), (.pointer (some e78))]))
theorem m_heap_Heap_down_c195_pok : ∀ y k, m_heap_Heap_down_c195_p y k → k y := by
  intro y k h
  unfold m_heap_Heap_down_c195_p m_heap_Heap_down_c195_o at h
  split at h <;> first | exact h | exact h.elim
def m_heap_Heap_down_l12_E : Env → World → Kont → Prop := (fun e w k => takeK 79 [0, 1, 4] e fun vs => LoopP m_heap_Heap_down_l12 vs w fun y w => m_heap_Heap_down_l12_p y fun y => outK 79 [(.exit 0, [0, 1, 4])] k y w)
def m_heap_Heap_down_c97_E : Env → World → Kont → Prop := (fun e w k => takeK 79 [0, 1, 4, 5] e fun vs => m_heap_Heap_down_c97 vs w fun y w => m_heap_Heap_down_c97_p y fun y => outK 79 [(.exit 0, [0, 1, 4]), (.normal, [0, 1, 4])] k y w)
def m_heap_Heap_down_c195_E : Env → World → Kont → Prop := (fun e w k => takeK 79 [0, 1, 4, 5] e fun vs => m_heap_Heap_down_c195 vs w fun y w => m_heap_Heap_down_c195_p y fun y => outK 79 [(.normal, [0, 1, 4])] k y w)
def O_m_heap_Heap_down : Orac := { loop := fun p => cond (Nat.beq p 12) m_heap_Heap_down_l12_E ((fun _ _ _ => False)), cut := fun p => cond (Nat.beq p 97) (some m_heap_Heap_down_c97_E) (cond (Nat.beq p 195) (some m_heap_Heap_down_c195_E) (none)) }
theorem m_heap_Heap_down_c195_owed : Owed P O_m_heap_Heap_down (codeAt (bodyOf 248) [true, false, false, false, false, true, true, true]) 391 := owed_of (cast (by kernel_rfl) True.intro)
theorem m_heap_Heap_down_c195_ok : Sound P (codeAt (bodyOf 248) [true, false, false, false, false, true, true, true]) m_heap_Heap_down_c195_E := by
  refine piece_sound (evCode_sound W2 O_m_heap_Heap_down (codeAt (bodyOf 248) [true, false, false, false, false, true, true, true]) 391 m_heap_Heap_down_c195_owed) 79 [0, 1, 4, 5] [(.normal, [0, 1, 4])] m_heap_Heap_down_c195 ?_ m_heap_Heap_down_c195_p m_heap_Heap_down_c195_pok
  intro vs w out h
  unfold m_heap_Heap_down_c195 at h
  split at h
  · exact cast (by kernel_rfl) h
  · exact h.elim
theorem m_heap_Heap_down_c97_owed : Owed P O_m_heap_Heap_down (codeAt (bodyOf 248) [true, false, false, false, false, true, true]) 195 := owed_of (cast (by kernel_rfl) m_heap_Heap_down_c195_ok)
theorem m_heap_Heap_down_c97_ok : Sound P (codeAt (bodyOf 248) [true, false, false, false, false, true, true]) m_heap_Heap_down_c97_E := by
  refine piece_sound (evCode_sound W2 O_m_heap_Heap_down (codeAt (bodyOf 248) [true, false, false, false, false, true, true]) 195 m_heap_Heap_down_c97_owed) 79 [0, 1, 4, 5] [(.exit 0, [0, 1, 4]), (.normal, [0, 1, 4])] m_heap_Heap_down_c97 ?_ m_heap_Heap_down_c97_p m_heap_Heap_down_c97_pok
  intro vs w out h
  unfold m_heap_Heap_down_c97 at h
  split at h
  · exact cast (by kernel_rfl) h
  · exact h.elim
theorem m_heap_Heap_down_l12_owed : Owed P O_m_heap_Heap_down (loopBody (codeAt (bodyOf 248) [true, false, false])) 24 := owed_of (cast (by kernel_rfl) m_heap_Heap_down_c97_ok)
theorem m_heap_Heap_down_l12_ok : Sound P (.loop (loopBody (codeAt (bodyOf 248) [true, false, false]))) m_heap_Heap_down_l12_E := by
  refine loop_sound (evCode_sound W2 O_m_heap_Heap_down (loopBody (codeAt (bodyOf 248) [true, false, false])) 24 m_heap_Heap_down_l12_owed) 79 [0, 1, 4] [(.exit 0, [0, 1, 4])] m_heap_Heap_down_l12 ?_ m_heap_Heap_down_l12_p m_heap_Heap_down_l12_pok
  intro vs w next out h
  unfold m_heap_Heap_down_l12 at h
  split at h
  · exact cast (by kernel_rfl) h
  · exact h.elim
theorem m_heap_Heap_down_owed : Owed P O_m_heap_Heap_down (bodyOf 248) 1 := owed_of (cast (by kernel_rfl) m_heap_Heap_down_l12_ok)
theorem m_heap_Heap_down_eq (h1 : Option Addr) (k2 : Int) (w0 : World) (K : Value → World → Prop) : m_heap_Heap_down h1 k2 w0 K = evCode T0 P O_m_heap_Heap_down (bodyOf 248) 1 (env0 (Array.toList #[(.pointer h1), (.int .i64 k2)]) (fnOf 248).ntmps) w0 (endK T0 (fnOf 248).results.toList K) := by kernel_rfl
theorem m_heap_Heap_down_ok {h1 : Option Addr} {k2 : Int} {w0 : World} {K : Value → World → Prop} (h : m_heap_Heap_down h1 k2 w0 K) : CallsV P 248 #[(.pointer h1), (.int .i64 k2)] w0 K :=
  func_sound W2 func_248 body_248 m_heap_Heap_down_owed (Eq.mp (m_heap_Heap_down_eq h1 k2 w0 K) h)


def m_cmp_Or_int_l58 (vs : List Value) (w0 : World) (next : List Value → World → Prop) (out : Nat × List Value → World → Prop) : Prop :=
  match vs with
  | [.int .i64 zero4, .slice sA5 sL6 sC7, .int .i64 n8, .int .i64 n9] => (if (decide (n9 < n8)) = true then Ix sA5 sL6 n9 fun a10 => ∃ (n11 : Int), World.cell? w0 (a10.add (Int.toNat n9 * 1)) = some (.int .i64 n11) ∧ (if (!decide (n11 = zero4)) = true then out (1, [(.int .i64 n11)]) w0 else next [(.int .i64 zero4), (.slice sA5 sL6 sC7), (.int .i64 n8), (.int .i64 (IntKind.wrap .i64 (n9 + 1)))] w0) else out (0, [(.int .i64 zero4)]) w0)
  | _ => False

def m_cmp_Or_int_l58_o (y : Nat × List Value) (k0 : Int → Prop) (k1 : Int → Prop) : Prop :=
  match y with
  | (0, [.int .i64 zero12]) => k0 zero12
  | (1, [.int .i64 n13]) => k1 n13
  | _ => False

/-- cmp.Or[int] -/
def m_cmp_Or_int (valsA1 : Option Addr) (valsL2 : Nat) (valsC3 : Nat) (w0 : World) (K : Value → World → Prop) : Prop :=
  LoopP m_cmp_Or_int_l58 [(.int .i64 0), (.slice valsA1 valsL2 valsC3), (.int .i64 ((valsL2 : Nat) : Int)), (.int .i64 0)] w0 fun y15 w14 => m_cmp_Or_int_l58_o y15 (fun zero16 => K (.int .i64 zero16) w14) (fun n17 => K (.int .i64 n17) w14)

theorem func_258 : P.funcs[258]? = some (fnOf 258) := by kernel_rfl
theorem body_258 : (fnOf 258).body = some (bodyOf 258) := by kernel_rfl
def m_cmp_Or_int_l58_p (y : Nat × List Value) (k : Nat × List Value → Prop) : Prop := m_cmp_Or_int_l58_o y (fun zero12 => k (0, [(.int .i64 zero12)])) (fun n13 => k (1, [(.int .i64 n13)]))
theorem m_cmp_Or_int_l58_pok : ∀ y k, m_cmp_Or_int_l58_p y k → k y := by
  intro y k h
  unfold m_cmp_Or_int_l58_p m_cmp_Or_int_l58_o at h
  split at h <;> first | exact h | exact h.elim
def m_cmp_Or_int_l58_E : Env → World → Kont → Prop := (fun e w k => takeK 18 [3, 6, 7, 8] e fun vs => LoopP m_cmp_Or_int_l58 vs w fun y w => m_cmp_Or_int_l58_p y fun y => outK 18 [(.exit 0, [3]), (.ret, [2])] k y w)
def O_m_cmp_Or_int : Orac := { loop := fun p => cond (Nat.beq p 58) m_cmp_Or_int_l58_E ((fun _ _ _ => False)), cut := fun p => none }
theorem m_cmp_Or_int_l58_owed : Owed P O_m_cmp_Or_int (loopBody (codeAt (bodyOf 258) [true, true, false, true, false])) 116 := owed_of (cast (by kernel_rfl) True.intro)
theorem m_cmp_Or_int_l58_ok : Sound P (.loop (loopBody (codeAt (bodyOf 258) [true, true, false, true, false]))) m_cmp_Or_int_l58_E := by
  refine loop_sound (evCode_sound W2 O_m_cmp_Or_int (loopBody (codeAt (bodyOf 258) [true, true, false, true, false])) 116 m_cmp_Or_int_l58_owed) 18 [3, 6, 7, 8] [(.exit 0, [3]), (.ret, [2])] m_cmp_Or_int_l58 ?_ m_cmp_Or_int_l58_p m_cmp_Or_int_l58_pok
  intro vs w next out h
  unfold m_cmp_Or_int_l58 at h
  split at h
  · exact cast (by kernel_rfl) h
  · exact h.elim
theorem m_cmp_Or_int_owed : Owed P O_m_cmp_Or_int (bodyOf 258) 1 := owed_of (cast (by kernel_rfl) m_cmp_Or_int_l58_ok)
theorem m_cmp_Or_int_eq (valsA1 : Option Addr) (valsL2 : Nat) (valsC3 : Nat) (w0 : World) (K : Value → World → Prop) : m_cmp_Or_int valsA1 valsL2 valsC3 w0 K = evCode T0 P O_m_cmp_Or_int (bodyOf 258) 1 (env0 (Array.toList #[(.slice valsA1 valsL2 valsC3)]) (fnOf 258).ntmps) w0 (endK T0 (fnOf 258).results.toList K) := by kernel_rfl
theorem m_cmp_Or_int_ok {valsA1 : Option Addr} {valsL2 : Nat} {valsC3 : Nat} {w0 : World} {K : Value → World → Prop} (h : m_cmp_Or_int valsA1 valsL2 valsC3 w0 K) : CallsV P 258 #[(.slice valsA1 valsL2 valsC3)] w0 K :=
  func_sound W2 func_258 body_258 m_cmp_Or_int_owed (Eq.mp (m_cmp_Or_int_eq valsA1 valsL2 valsC3 w0 K) h)


/-- cmp.Compare[int64] -/
def m_cmp_Compare_int64 (x1 : Int) (y2 : Int) (w0 : World) (K : Value → World → Prop) : Prop :=
  CallsV P 282 #[(.int .i64 x1)] w0 fun v3 w4 => ∃ (b5 : Bool), v3 = (.bool b5) ∧ CallsV P 282 #[(.int .i64 y2)] w4 fun v6 w7 => ∃ (b8 : Bool), v6 = (.bool b8) ∧ (if b5 = true then (if b8 = true then K (.int .i64 0) w7 else K (.int .i64 (-1)) w7) else (if b8 = true then K (.int .i64 1) w7 else (if (decide (x1 < y2)) = true then K (.int .i64 (-1)) w7 else (if (decide (y2 < x1)) = true then K (.int .i64 1) w7 else K (.int .i64 0) w7))))

theorem func_259 : P.funcs[259]? = some (fnOf 259) := by kernel_rfl
theorem body_259 : (fnOf 259).body = some (bodyOf 259) := by kernel_rfl
theorem m_cmp_Compare_int64_owed : Owed P O0 (bodyOf 259) 1 := owed_of (cast (by kernel_rfl) True.intro)
theorem m_cmp_Compare_int64_eq (x1 : Int) (y2 : Int) (w0 : World) (K : Value → World → Prop) : m_cmp_Compare_int64 x1 y2 w0 K = evCode T0 P O0 (bodyOf 259) 1 (env0 (Array.toList #[(.int .i64 x1), (.int .i64 y2)]) (fnOf 259).ntmps) w0 (endK T0 (fnOf 259).results.toList K) := by kernel_rfl
theorem m_cmp_Compare_int64_ok {x1 : Int} {y2 : Int} {w0 : World} {K : Value → World → Prop} (h : m_cmp_Compare_int64 x1 y2 w0 K) : CallsV P 259 #[(.int .i64 x1), (.int .i64 y2)] w0 K :=
  func_sound W2 func_259 body_259 m_cmp_Compare_int64_owed (Eq.mp (m_cmp_Compare_int64_eq x1 y2 w0 K) h)


/-- cmp.Compare[uint64] -/
def m_cmp_Compare_uint64 (x1 : Int) (y2 : Int) (w0 : World) (K : Value → World → Prop) : Prop :=
  CallsV P 283 #[(.int .u64 x1)] w0 fun v3 w4 => ∃ (b5 : Bool), v3 = (.bool b5) ∧ CallsV P 283 #[(.int .u64 y2)] w4 fun v6 w7 => ∃ (b8 : Bool), v6 = (.bool b8) ∧ (if b5 = true then (if b8 = true then K (.int .i64 0) w7 else K (.int .i64 (-1)) w7) else (if b8 = true then K (.int .i64 1) w7 else (if (decide (x1 < y2)) = true then K (.int .i64 (-1)) w7 else (if (decide (y2 < x1)) = true then K (.int .i64 1) w7 else K (.int .i64 0) w7))))

theorem func_260 : P.funcs[260]? = some (fnOf 260) := by kernel_rfl
theorem body_260 : (fnOf 260).body = some (bodyOf 260) := by kernel_rfl
theorem m_cmp_Compare_uint64_owed : Owed P O0 (bodyOf 260) 1 := owed_of (cast (by kernel_rfl) True.intro)
theorem m_cmp_Compare_uint64_eq (x1 : Int) (y2 : Int) (w0 : World) (K : Value → World → Prop) : m_cmp_Compare_uint64 x1 y2 w0 K = evCode T0 P O0 (bodyOf 260) 1 (env0 (Array.toList #[(.int .u64 x1), (.int .u64 y2)]) (fnOf 260).ntmps) w0 (endK T0 (fnOf 260).results.toList K) := by kernel_rfl
theorem m_cmp_Compare_uint64_ok {x1 : Int} {y2 : Int} {w0 : World} {K : Value → World → Prop} (h : m_cmp_Compare_uint64 x1 y2 w0 K) : CallsV P 260 #[(.int .u64 x1), (.int .u64 y2)] w0 K :=
  func_sound W2 func_260 body_260 m_cmp_Compare_uint64_owed (Eq.mp (m_cmp_Compare_uint64_eq x1 y2 w0 K) h)


/-- cmp.Compare[int] -/
def m_cmp_Compare_int (x1 : Int) (y2 : Int) (w0 : World) (K : Value → World → Prop) : Prop :=
  CallsV P 284 #[(.int .i64 x1)] w0 fun v3 w4 => ∃ (b5 : Bool), v3 = (.bool b5) ∧ CallsV P 284 #[(.int .i64 y2)] w4 fun v6 w7 => ∃ (b8 : Bool), v6 = (.bool b8) ∧ (if b5 = true then (if b8 = true then K (.int .i64 0) w7 else K (.int .i64 (-1)) w7) else (if b8 = true then K (.int .i64 1) w7 else (if (decide (x1 < y2)) = true then K (.int .i64 (-1)) w7 else (if (decide (y2 < x1)) = true then K (.int .i64 1) w7 else K (.int .i64 0) w7))))

theorem func_261 : P.funcs[261]? = some (fnOf 261) := by kernel_rfl
theorem body_261 : (fnOf 261).body = some (bodyOf 261) := by kernel_rfl
theorem m_cmp_Compare_int_owed : Owed P O0 (bodyOf 261) 1 := owed_of (cast (by kernel_rfl) True.intro)
theorem m_cmp_Compare_int_eq (x1 : Int) (y2 : Int) (w0 : World) (K : Value → World → Prop) : m_cmp_Compare_int x1 y2 w0 K = evCode T0 P O0 (bodyOf 261) 1 (env0 (Array.toList #[(.int .i64 x1), (.int .i64 y2)]) (fnOf 261).ntmps) w0 (endK T0 (fnOf 261).results.toList K) := by kernel_rfl
theorem m_cmp_Compare_int_ok {x1 : Int} {y2 : Int} {w0 : World} {K : Value → World → Prop} (h : m_cmp_Compare_int x1 y2 w0 K) : CallsV P 261 #[(.int .i64 x1), (.int .i64 y2)] w0 K :=
  func_sound W2 func_261 body_261 m_cmp_Compare_int_owed (Eq.mp (m_cmp_Compare_int_eq x1 y2 w0 K) h)


/-- cmp.isNaN[int64] -/
def m_cmp_isNaN_int64 (x1 : Int) (w0 : World) (K : Value → World → Prop) : Prop :=
  K (.bool (!decide (x1 = x1))) w0

theorem func_282 : P.funcs[282]? = some (fnOf 282) := by kernel_rfl
theorem body_282 : (fnOf 282).body = some (bodyOf 282) := by kernel_rfl
theorem m_cmp_isNaN_int64_owed : Owed P O0 (bodyOf 282) 1 := owed_of (cast (by kernel_rfl) True.intro)
theorem m_cmp_isNaN_int64_eq (x1 : Int) (w0 : World) (K : Value → World → Prop) : m_cmp_isNaN_int64 x1 w0 K = evCode T0 P O0 (bodyOf 282) 1 (env0 (Array.toList #[(.int .i64 x1)]) (fnOf 282).ntmps) w0 (endK T0 (fnOf 282).results.toList K) := by kernel_rfl
theorem m_cmp_isNaN_int64_ok {x1 : Int} {w0 : World} {K : Value → World → Prop} (h : m_cmp_isNaN_int64 x1 w0 K) : CallsV P 282 #[(.int .i64 x1)] w0 K :=
  func_sound W2 func_282 body_282 m_cmp_isNaN_int64_owed (Eq.mp (m_cmp_isNaN_int64_eq x1 w0 K) h)


/-- cmp.isNaN[uint64] -/
def m_cmp_isNaN_uint64 (x1 : Int) (w0 : World) (K : Value → World → Prop) : Prop :=
  K (.bool (!decide (x1 = x1))) w0

theorem func_283 : P.funcs[283]? = some (fnOf 283) := by kernel_rfl
theorem body_283 : (fnOf 283).body = some (bodyOf 283) := by kernel_rfl
theorem m_cmp_isNaN_uint64_owed : Owed P O0 (bodyOf 283) 1 := owed_of (cast (by kernel_rfl) True.intro)
theorem m_cmp_isNaN_uint64_eq (x1 : Int) (w0 : World) (K : Value → World → Prop) : m_cmp_isNaN_uint64 x1 w0 K = evCode T0 P O0 (bodyOf 283) 1 (env0 (Array.toList #[(.int .u64 x1)]) (fnOf 283).ntmps) w0 (endK T0 (fnOf 283).results.toList K) := by kernel_rfl
theorem m_cmp_isNaN_uint64_ok {x1 : Int} {w0 : World} {K : Value → World → Prop} (h : m_cmp_isNaN_uint64 x1 w0 K) : CallsV P 283 #[(.int .u64 x1)] w0 K :=
  func_sound W2 func_283 body_283 m_cmp_isNaN_uint64_owed (Eq.mp (m_cmp_isNaN_uint64_eq x1 w0 K) h)


/-- cmp.isNaN[int] -/
def m_cmp_isNaN_int (x1 : Int) (w0 : World) (K : Value → World → Prop) : Prop :=
  K (.bool (!decide (x1 = x1))) w0

theorem func_284 : P.funcs[284]? = some (fnOf 284) := by kernel_rfl
theorem body_284 : (fnOf 284).body = some (bodyOf 284) := by kernel_rfl
theorem m_cmp_isNaN_int_owed : Owed P O0 (bodyOf 284) 1 := owed_of (cast (by kernel_rfl) True.intro)
theorem m_cmp_isNaN_int_eq (x1 : Int) (w0 : World) (K : Value → World → Prop) : m_cmp_isNaN_int x1 w0 K = evCode T0 P O0 (bodyOf 284) 1 (env0 (Array.toList #[(.int .i64 x1)]) (fnOf 284).ntmps) w0 (endK T0 (fnOf 284).results.toList K) := by kernel_rfl
theorem m_cmp_isNaN_int_ok {x1 : Int} {w0 : World} {K : Value → World → Prop} (h : m_cmp_isNaN_int x1 w0 K) : CallsV P 284 #[(.int .i64 x1)] w0 K :=
  func_sound W2 func_284 body_284 m_cmp_isNaN_int_owed (Eq.mp (m_cmp_isNaN_int_eq x1 w0 K) h)


end Go.M

/- What the functions of the heap do: a new one; members. -/
set_option linter.all false
set_option linter.constructorNameAsVariable false
set_option maxRecDepth 100000
namespace Go.M
open Go Go.Eng Go.RowKit

structure En where
  key : Int
  tie : Int
  i : Nat
  deriving DecidableEq

def En.cells (e : En) : List Value := [.int .i64 e.key, .int .u64 e.tie, .int .i64 (e.i : Int)]

/-- a heap: its head, where each member is, the block of its list -/
structure HeapAt (w : World) (hb ab : Nat) (ob : Option Nat) (n : Nat) (l : List En) (at_ : Nat → Int) : Prop where
  ne : hb ≠ ab
  lt_hb : hb < w.heap.size
  lt_ab : ab < w.heap.size
  z_hb : ∀ i, w.frozen? ⟨hb, i, none⟩ = false
  z_ab : ∀ i, w.frozen? ⟨ab, i, none⟩ = false
  row : ∃ sv, w.cell? ⟨hb, 0, none⟩ = some sv ∧ w.ownsRow 0 377 3 sv l.length (l.flatMap En.cells) ∧ sv.ownBlock = ob
  h_at : w.cell? ⟨hb, 1, none⟩ = some (.slice (some ⟨ab, 0, none⟩) n n)
  c_at : ∀ i, i < n → w.cell? ⟨ab, i, none⟩ = some (.int .i64 (at_ i))
  nb_hb : ob ≠ some hb
  nb_ab : ob ≠ some ab

theorem HeapAt.only {S : List Nat} {w w' : World} {hb ab : Nat} {ob : Option Nat} {n : Nat} {l : List En} {at_ : Nat → Int} (h : HeapAt w hb ab ob n l at_) (ho : Only S w w') (h1 : hb ∉ S) (h2 : ab ∉ S) (h3 : ∀ b, ob = some b → b ∉ S) : HeapAt w' hb ab ob n l at_ := by
  obtain ⟨sv, g1, g2, g3⟩ := h.row
  exact ⟨h.ne, Nat.lt_of_lt_of_le h.lt_hb ho.size, Nat.lt_of_lt_of_le h.lt_ab ho.size, fun i => (ho.frozen h.lt_hb h1).trans (h.z_hb i), fun i => (ho.frozen h.lt_ab h2).trans (h.z_ab i),
    ⟨sv, ho.cell g1 h1, own_kept g2 ho (fun b hb => h3 b (g3 ▸ hb)), g3⟩, ho.cell h.h_at h1, fun i hi => ho.cell (h.c_at i hi) h2, h.nb_hb, h.nb_ab⟩

theorem heapNew_ok {n : Nat} (h1 : 1 ≤ n) (h2 : n ≤ 1024) {w : World} {K : Value → World → Prop}
    (hK : ∀ w' hb ab at_, Only [] w w' → w.heap.size ≤ hb → w.heap.size ≤ ab → HeapAt w' hb ab none n [] at_ → (∀ i, i < n → at_ i = -1) → K (.tuple #[.pointer (some ⟨hb, 0, none⟩), .int .i64 0]) w') :
    CallsV P 125 #[.int .i64 (n : Int)] w K := by
  refine m_heap_New_ok ?_
  unfold m_heap_New
  refine if_no (by simp; omega) (if_no (by simp; omega) ?_)
  unfold m_heap_New_c3
  refine make_ok W2 (t := 47) (e := 3) (ti := ti3) rfl rfl rfl (by simp [ti3]; omega) (by omega) ⟨_, _, _, rfl, al_intro ?_⟩
  rw [World.size_alloc]
  obtain ⟨W, hW⟩ : ∃ W, (w.alloc (.cells (madeCells ti3.zero.cells (n * ti3.size)) 3)).alloc (.cells #[(.slice none 0 0), (.slice (some ⟨w.heap.size, 0, none⟩) n n)] 324) = W := ⟨_, rfl⟩
  rw [hW]
  have hm : ∀ i, i < n → (madeCells ti3.zero.cells (n * ti3.size))[i]? = some (.int .i64 0) := fun i hi => by
    rw [made_get _ _ _ (by show i < n * 1; omega) (by show 0 < 1; omega)]
    have : i % ti3.zero.cells.size = 0 := by show i % 1 = 0; omega
    rw [this]
    rfl
  have q2 : ¬ (w.heap.size = w.heap.size + 1) := by omega
  have o0 : Only [] w W := by rw [← hW]; exact (Only.alloc _ _).trans (Only.alloc _ _)
  have r0 : HeapAt W (w.heap.size + 1) w.heap.size none n [] fun _ => 0 := by
    rw [← hW]
    refine ⟨by omega, by simp [World.size_alloc], by simp [World.size_alloc]; omega, fun i => by simp [frozen_new, World.size_alloc], fun i => by simp [frozen_new, World.size_alloc, q2], ⟨.slice none 0 0, by simp [cell_new, World.size_alloc], World.ownsRow_nil _ _ _ _, rfl⟩,
      by simp [cell_new, World.size_alloc], fun i hi => ?_, by simp, by simp⟩
    simp [cell_new, World.size_alloc, q2]
    exact hm i hi
  simp only [addr_add, Nat.add_zero, Nat.zero_add]
  refine ld_slice r0.h_at ?_
  refine loop_count n (fun i w' => Only [] w w' ∧ ∃ at_, HeapAt w' (w.heap.size + 1) w.heap.size none n [] at_ ∧ ∀ j, j < i → at_ j = -1)
    (fun i => [.pointer (some ⟨w.heap.size + 1, 0, none⟩), .int .i64 (n : Int), .int .i64 (i : Int)]) ?_ ?_ ⟨o0, _, r0, fun j hj => by omega⟩
  · rintro i w' next hi ⟨ho, at_, h, e1⟩ hnext
    unfold m_heap_New_l122
    simp only
    refine if_yes (by simpa using hi) ?_
    simp only [addr_add, Nat.add_zero, Nat.zero_add]
    refine ld_slice h.h_at (ix_nat hi ?_)
    simp only [addr_add, Nat.add_zero, Nat.zero_add, Int.toNat_natCast, Nat.mul_one]
    refine St_at (h.c_at i hi) (h.z_ab _) ?_
    rw [IntWalk.i64_in _ (by omega)]
    have on : Only [w.heap.size] w' (w'.setCell ⟨w.heap.size, i, none⟩ (.int .i64 (-1))) := (Only.refl [w.heap.size] w').st (.inl (by simp)) (h.c_at i hi)
    obtain ⟨sv, g1, g2, g3⟩ := h.row
    refine hnext _ ⟨ho.st (.inr (Nat.le_refl _)) (h.c_at i hi), upd at_ i (-1), ⟨h.ne, by rw [size_setCell]; exact h.lt_hb, by rw [size_setCell]; exact h.lt_ab, fun j => (frozen_set _ _ _ _).trans (h.z_hb j), fun j => (frozen_set _ _ _ _).trans (h.z_ab j),
      ⟨sv, (cell_set_ne (.inl h.ne)).trans g1, own_kept g2 on (fun b hb => by rw [g3] at hb; cases hb), g3⟩, (cell_set_ne (.inl h.ne)).trans h.h_at, fun j hj => ?_, h.nb_hb, h.nb_ab⟩, fun j hj => ?_⟩
    · by_cases e : j = i
      · subst e; rw [cell_set_eq (h.c_at j hj)]; simp
      · exact (cell_set_ne (.inr e)).trans ((h.c_at j hj).trans (by simp [upd_other e]))
    · by_cases e : j = i
      · subst e; simp
      · rw [upd_other e]; exact e1 j (by omega)
  · rintro w' next ⟨ho, at_, h, e1⟩
    unfold m_heap_New_l122
    simp only
    refine if_no (by simp) ?_
    simp only [m_heap_New_l122_o, m_heap_New_c3_o]
    exact hK w' _ _ at_ ho (by omega) (Nat.le_refl _) h e1

end Go.M

/- The order of entries: comparing numbers. -/
set_option linter.all false
set_option linter.constructorNameAsVariable false
namespace Go.M
open Go Go.Eng Go.RowKit

variable {w : World} {K : Value → World → Prop}

def cmpI (x y : Int) : Int := if x < y then -1 else if y < x then 1 else 0

theorem nan1_ok {x : Int} (hK : K (.bool false) w) : CallsV P 282 #[.int .i64 x] w K := by
  refine m_cmp_isNaN_int64_ok ?_
  unfold m_cmp_isNaN_int64
  simpa using hK
theorem nan2_ok {x : Int} (hK : K (.bool false) w) : CallsV P 283 #[.int .u64 x] w K := by
  refine m_cmp_isNaN_uint64_ok ?_
  unfold m_cmp_isNaN_uint64
  simpa using hK
theorem nan3_ok {x : Int} (hK : K (.bool false) w) : CallsV P 284 #[.int .i64 x] w K := by
  refine m_cmp_isNaN_int_ok ?_
  unfold m_cmp_isNaN_int
  simpa using hK

theorem cmp1_ok {x y : Int} (hK : K (.int .i64 (cmpI x y)) w) : CallsV P 259 #[.int .i64 x, .int .i64 y] w K := by
  refine m_cmp_Compare_int64_ok ?_
  refine nan1_ok ⟨_, rfl, nan1_ok ⟨_, rfl, if_no (by simp) (if_no (by simp) ?_)⟩⟩
  unfold cmpI at hK
  by_cases h : x < y
  · exact if_yes (by simpa using h) (by simpa [h] using hK)
  · refine if_no (by simpa using h) ?_
    by_cases h' : y < x
    · exact if_yes (by simpa using h') (by simpa [h, h'] using hK)
    · exact if_no (by simpa using h') (by simpa [h, h'] using hK)
theorem cmp2_ok {x y : Int} (hK : K (.int .i64 (cmpI x y)) w) : CallsV P 260 #[.int .u64 x, .int .u64 y] w K := by
  refine m_cmp_Compare_uint64_ok ?_
  refine nan2_ok ⟨_, rfl, nan2_ok ⟨_, rfl, if_no (by simp) (if_no (by simp) ?_)⟩⟩
  unfold cmpI at hK
  by_cases h : x < y
  · exact if_yes (by simpa using h) (by simpa [h] using hK)
  · refine if_no (by simpa using h) ?_
    by_cases h' : y < x
    · exact if_yes (by simpa using h') (by simpa [h, h'] using hK)
    · exact if_no (by simpa using h') (by simpa [h, h'] using hK)
theorem cmp3_ok {x y : Int} (hK : K (.int .i64 (cmpI x y)) w) : CallsV P 261 #[.int .i64 x, .int .i64 y] w K := by
  refine m_cmp_Compare_int_ok ?_
  refine nan3_ok ⟨_, rfl, nan3_ok ⟨_, rfl, if_no (by simp) (if_no (by simp) ?_)⟩⟩
  unfold cmpI at hK
  by_cases h : x < y
  · exact if_yes (by simpa using h) (by simpa [h] using hK)
  · refine if_no (by simpa using h) ?_
    by_cases h' : y < x
    · exact if_yes (by simpa using h') (by simpa [h, h'] using hK)
    · exact if_no (by simpa using h') (by simpa [h, h'] using hK)

end Go.M
