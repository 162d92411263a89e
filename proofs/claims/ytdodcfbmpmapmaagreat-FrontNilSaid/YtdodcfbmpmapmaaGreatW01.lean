/- Proofs about the front of the overload controller, part 1: Eng6 Eng7 EngA EngB. -/
import Derived.Test.YtdodcfbmpmapmaaGreatW00
import Derived.OrdersIn
import Derived.LoopNIn
import Derived.TacticsIn
import Derived.RangeFuncSeq
import Derived.Orders
set_option linter.all false
set_option linter.constructorNameAsVariable false
set_option linter.unusedVariables false
/- The engine, part 6: operations on memory; calls. -/
namespace Go.Eng
open Go Go.RowKit

variable {P : Program} {C : Tell}

def zs (cs : List Value) : Nat → List Value
  | 0 => []
  | n + 1 => cs ++ zs cs n

theorem zs_length (cs : List Value) : ∀ n, (zs cs n).length = n * cs.length
  | 0 => by simp [zs]
  | n + 1 => by simp [zs, zs_length cs n, Nat.succ_mul, Nat.add_comm]

theorem zs_get (cs : List Value) : ∀ n i, i < n * cs.length → (zs cs n)[i]? = cs[i % cs.length]?
  | 0, i, h => by simp at h
  | n + 1, i, h => by
    by_cases hi : i < cs.length
    · simp [zs, List.getElem?_append_left hi, Nat.mod_eq_of_lt hi]
    · have h1 : i - cs.length < n * cs.length := by
        have h2 : (n + 1) * cs.length = n * cs.length + cs.length := Nat.succ_mul _ _
        omega
      simp only [zs]
      rw [List.getElem?_append_right (by omega), zs_get cs n _ h1]
      have : i % cs.length = (i - cs.length) % cs.length := Nat.mod_eq_sub_mod (by omega)
      rw [this]

theorem zeros_eq (zero : Array Value) (n : Nat) : (Array.range (n * zero.size)).map (fun i => zero[i % zero.size]!) = (zs zero.toList n).toArray := by
  apply Array.ext'
  apply List.ext_getElem?
  intro i
  simp only [Array.toList_map, List.getElem?_map]
  by_cases hi : i < n * zero.size
  · have hz : 0 < zero.size := by
      rcases Nat.eq_zero_or_pos zero.size with h | h
      · rw [h] at hi; simp at hi
      · exact h
    have h1 := zs_get zero.toList n i (by simpa using hi)
    have hm : i % zero.size < zero.size := Nat.mod_lt _ hz
    rw [h1]
    simp [hi, hm]
  · have : (zs zero.toList n)[i]? = none := by
      rw [List.getElem?_eq_none_iff, zs_length]
      simpa using hi
    rw [this]
    simp [hi]

/-- a call of a round -/
def YieldV (P : Program) (l : Nat) (args : Array Value) (w : World) (K : Value → World → Prop) : Prop :=
  YieldAt Fence.wide 0 P l args w fun e w' => ∃ v, e = .returned v ∧ K v w'

/-- a call of a function value -/
def CallFn (C : Tell) (P : Program) (v : Value) (args : List Value) (w : World) (K : Value → World → Prop) : Prop :=
  match v with
  | .func (.yield l) first _ => YieldV P l (first ++ args.toArray) w K
  | .func (.func f) first captured => C.body f = true ∧ CallsV P f ((first ++ args.toArray) ++ captured) w K
  | _ => False

def isConst : Operand → Bool
  | .const _ => true
  | _ => false

/-- a built-in function of the model's own -/
def RunB (P : Program) (b : Builtin) (ts : Array TypeId) (ty : TypeId) (cs : Array Bool) (args : Array Value) (w : World) (K : Value → World → Prop) : Prop :=
  ∃ v w', (builtin b ts ty cs args).run P w = .ok (.value v) w' ∧ K v w'

def evCall (C : Tell) (P : Program) (c : Call) (ty : TypeId) (e : Env) (w : World) (K : Value → World → Prop) : Prop :=
  match evals e c.args.toList with
  | none => False
  | some vs =>
    match c.callee with
    | .value (.func f) =>
      if C.body f = true then CallsV P f vs.toArray w fun v w' => OfT C ty v fun v => K v w'
      else C.ext f vs.toArray w K
    | .value x => match eval e x with | some v => CallFn C P v vs w fun v w' => OfT C ty v fun v => K v w' | none => False
    | .builtin b => RunB P b c.argTypes ty (c.args.map isConst) vs.toArray w fun v w' => OfT C ty v fun v => K v w'
    | _ => False

/-- an operation on memory -/
def evMem (C : Tell) (P : Program) (o : Oper) (e : Env) (w : World) (K : Value → World → Prop) : Prop :=
  match o.op with
  | .alloc t => match C.ty t with | some ti => if ti.isTuple = true then False else Al ti.zero.cells t w fun b w => K (.pointer (some ⟨b, 0, none⟩)) w | none => False
  | .box t x => match eval e x with | some v => Al v.cells t w fun b w => K (.pointer (some ⟨b, 0, none⟩)) w | none => False
  | .buildSlice t len ps =>
    match shape1 C t, partsV e ps.toList with
    | some (.slice u), some vs =>
      match C.ty u with
      | some tu =>
        if tu.isTuple = true ∨ tu.size = 0 ∨ 16777216 < len * tu.size ∨ tu.zero.cells.size ≠ tu.size then False
        else
          match Instr.fill (fun i => some (i * tu.size, tu.size)) (zs tu.zero.cells.toList len).toArray vs with
          | some cs => Al cs u w fun b w => K (.slice (some ⟨b, 0, none⟩) len len) w
          | none => False
      | none => False
    | _, _ => False
  | .load t x =>
    match C.ty t, eval e x with
    | some ti, some (.pointer (some a)) => if ti.isTuple = true then False else ldT ti a w fun v => K v w
    | _, _ => False
  | .store t x y =>
    match C.ty t, eval e x, eval e y with
    | some ti, some (.pointer (some a)), some v => if v.cells.size = ti.size then stCells v.cells.toList a 0 w fun w => K undef w else False
    | _, _, _ => False
  | .makeSlice t l c => match eval e l, eval e c with | some l, some c => Run P (Instr.makeSlice t l c) w fun v w' => OfT C o.type v fun v => K v w' | _, _ => False
  | .slice t x lo hi mx =>
    match eval e x with
    | some x =>
      if (lo.all fun y => (eval e y).isSome) = true ∧ (hi.all fun y => (eval e y).isSome) = true ∧ (mx.all fun y => (eval e y).isSome) = true then
        Run P (Instr.sliceAt t x (lo.map fun y => (eval e y).getD undef) (hi.map fun y => (eval e y).getD undef) (mx.map fun y => (eval e y).getD undef)) w fun v w' => OfT C o.type v fun v => K v w'
      else False
    | none => False
  | .makeMap t none => Run P (Instr.makeMap t none) w fun v w' => OfT C o.type v fun v => K v w'
  | .lookup t x i ok => match eval e x, eval e i with | some x, some i => Run P (Instr.lookup t x i ok) w fun v w' => OfT C o.type v fun v => K v w' | _, _ => False
  | .mapUpdate t m k x => match eval e m, eval e k, eval e x with | some m, some k, some x => RunU P (Instr.mapUpdate t m k x) w fun w' => K undef w' | _, _, _ => False
  | .call c => evCall C P c o.type e w K
  | _ => False

/-! ### Soundness -/

theorem run_load_cell {a : Addr} {v : Value} {w : World} (h : w.cell? a = some v) : (load a).run P w = .ok v w := by
  simp [h]

theorem ldCells_sound : ∀ {ss : List Sh} {a : Addr} {i : Nat} {w : World} {acc : List Value} {k : List Value → Prop}, ldCells ss a i w acc k →
    ∃ vs : List Value, (loadCellsFrom a i ss.length acc.toArray).run P w = .ok vs.toArray w ∧ k vs
  | [], _, _, w, acc, _, h => ⟨acc, rfl, h⟩
  | s :: ss, a, i, w, acc, k, h => by
    simp only [ldCells, Ld] at h
    obtain ⟨v, hv, h⟩ := exSh_get h
    obtain ⟨vs, h1, h2⟩ := ldCells_sound h
    refine ⟨vs, ?_, h2⟩
    simp only [List.length_cons, loadCellsFrom, Sem.run_bind, run_load_cell hv, Result.andThen_ok]
    simpa using h1

theorem ldT_sound {t : TypeId} {ti : TI} {i : TypeInfo} {d : TypeDesc} (h1 : TyIs P t ti i d) (ht : ti.isTuple = false) {a : Addr} {w : World} {k : Value → Prop} (h : ldT ti a w k) : ∃ v, (loadVar t a).run P w = .ok v w ∧ k v := by
  unfold ldT at h
  unfold loadVar
  split at h
  · rename_i cs ha
    obtain ⟨vs, h2, h3⟩ := ldCells_sound (P := P) h
    refine ⟨_, ?_, h3⟩
    have hl := (zero_is h1 ht).2.1 ha
    simp only [Sem.run_bind, run_isAgg h1, ha, Result.andThen_ok, if_true, run_size h1.info, h1.size, hl, loadCells]
    have h2' : (loadCellsFrom a 0 ti.cells.length #[]).run P w = .ok vs.toArray w := by simpa using h2
    rw [h2']
    rfl
  · rename_i s ss ha _
    obtain ⟨v, hv, h⟩ := exSh_get h
    refine ⟨v, ?_, h⟩
    simp [run_isAgg h1, ha, hv]
  · exact h.elim

theorem run_store_cell {a : Addr} {u v : Value} {w : World} (hv : one v = true) (hc : w.cell? a = some u) (hf : w.frozen? a = false) : (store a v).run P w = .ok () (w.setCell a v) := by
  cases v <;> simp [one] at hv <;> simp [store, Sem.run, hc, hf]

theorem stCells_sound : ∀ {vs : List Value} {a : Addr} {i : Nat} {w : World} {k : World → Prop}, stCells vs a i w k → ∃ w', (storeCells a vs i).run P w = .ok () w' ∧ k w'
  | [], _, _, w, _, h => ⟨w, rfl, h⟩
  | v :: vs, a, i, w, k, h => by
    simp only [stCells, St] at h
    split at h
    · rename_i hv
      obtain ⟨⟨u, hu⟩, hf, h⟩ := h
      obtain ⟨w', h1, h2⟩ := stCells_sound h
      refine ⟨w', ?_, h2⟩
      simp only [storeCells, Sem.run_bind, run_store_cell hv hu hf, Result.andThen_ok]
      exact h1
    · exact h.elim

theorem getD_eval {a : Act} {e : Env} (hf : Fits e a.tmps) {x : Option Operand} (h : (x.all fun y => (eval e y).isSome) = true) : x.map a.eval = x.map fun y => (eval e y).getD undef := by
  cases x with
  | none => rfl
  | some y =>
    simp only [Option.all_some] at h
    obtain ⟨v, hv⟩ := Option.isSome_iff_exists.1 h
    simp [hv, eval_sound hf hv]

/-- what an operation's run comes to -/
def OpRes (P : Program) (K : Value → World → Prop) : Result Next → Prop
  | .ok (.value v) w' => K v w'
  | .ok .skip w' => K undef w'
  | .ok (.enter f args) w' => CallsV P f args w' K
  | .ok (.round l f tmps assign body) w' => RoundIn Fence.wide 0 P l f tmps assign body w' fun e w'' => ∃ v, e = .returned v ∧ K v w''
  | _ => False

/-- the fence of a round's frame, or of a function's -/
def Fr (l : Option Nat) : Fence := { Fence.wide with round := l }

/-- what code does, in a round's frame or in a function's -/
abbrev WP (l : Option Nat) (P : Program) (c : Code) (Q : Exit → Act → World → Prop) (a : Act) (w : World) : Prop := c.wpIn (Fr l) 0 P Q a w

theorem fr_fn {l : Option Nat} {f : Nat} : (Fr l).fn f := trivial
theorem fr_depth {l : Option Nat} {n : Nat} : (Fr l).depth.isSome = true → 1 ≤ n := fun h => by cases h

/-- an operation's meaning -/
def OpSound (P : Program) (o : Oper) (a : Act) (w : World) (K : Value → World → Prop) : Prop := OpRes P K ((execOp a.eval o).run P w)

theorem semAt_run {l : Option Nat} {ρ : Operand → Value} {o : Oper} {w w' : World} {n : Next} (h : (execOp ρ o).run P w = .ok n w') (hn : ∀ d, n ≠ .defer d) : Oper.semAt l ρ o = execOp ρ o := by
  refine Oper.semAt_eq l ρ o fun c hc => ?_
  simp only [execOp, hc, Sem.run_bind] at h
  generalize (resolve ρ c o.type).run P w = r at h
  cases r with
  | ok d w1 =>
    simp only [Result.andThen_ok, Sem.run_pure, Result.ok.injEq] at h
    exact hn d h.1.symm
  | halt x w1 => simp [Result.andThen] at h

theorem OpSound.wp {l : Option Nat} {o : Oper} {a : Act} {w : World} {K : Value → World → Prop} (h : OpSound P o a w K) (next : Act → World → Prop) (Q : Exit → Act → World → Prop) (hn : ∀ v w', K v w' → next (a.put o.dst v) w') : o.wpIn (Fr l) 0 P a w next Q := by
  refine ⟨fun _ _ => fr_fn, ?_⟩
  unfold OpSound at h
  have hs : ∀ n w', (execOp a.eval o).run P w = .ok n w' → (∀ d, n ≠ .defer d) → (Oper.semAt l a.eval o).run P w = .ok n w' := fun n w' h1 h2 => by rw [semAt_run h1 h2, h1]
  show Oper.uponIn (Fr l) 0 P o a next Q ((Oper.semAt l a.eval o).run P w)
  generalize hr : (execOp a.eval o).run P w = r at *
  cases r with
  | ok n w' =>
    cases n <;> simp only [OpRes] at h
    case value v => rw [hs _ _ rfl (fun _ => by simp)]; exact hn _ _ h
    case skip => rw [hs _ _ rfl (fun _ => by simp)]; exact hn _ _ h
    case enter f args =>
      rw [hs _ _ rfl (fun _ => by simp)]
      refine ⟨fr_depth, ?_⟩
      have h1 : CallsIn Fence.wide (0 - 1) P f args w' _ := callsIn_wide.2 h
      exact CallsIn.mono (F := Fr l) h1 fun e w'' ⟨v, he, hv⟩ => by subst he; exact hn _ _ hv
    case round f tmps assign body =>
      rename_i l' 
      rw [hs _ _ rfl (fun _ => by simp)]
      refine ⟨fr_depth, ?_⟩
      exact RoundIn.mono (F := Fr l) h fun e w'' ⟨v, he, hv⟩ => by subst he; exact hn _ _ hv
  | halt x w' => cases h

theorem opSound_value {o : Oper} {a : Act} {w w' : World} {v : Value} {K : Value → World → Prop} (h : (execOp a.eval o).run P w = .ok (.value v) w') (hK : K v w') : OpSound P o a w K := by
  unfold OpSound
  rw [h]
  exact hK

theorem opSound_skip {o : Oper} {a : Act} {w w' : World} {K : Value → World → Prop} (h : (execOp a.eval o).run P w = .ok .skip w') (hK : K undef w') : OpSound P o a w K := by
  unfold OpSound
  rw [h]
  exact hK

theorem opSound_enter {o : Oper} {a : Act} {w : World} {f : FuncId} {args : Array Value} {K : Value → World → Prop} (h : (execOp a.eval o).run P w = .ok (.enter f args) w) (hK : CallsV P f args w K) : OpSound P o a w K := by
  unfold OpSound
  rw [h]
  exact hK

theorem evCall_sound (hW : World2 P C) {a : Act} {e : Env} (hf : Fits e a.tmps) {o : Oper} {c : Call} (hop : o.op = .call c) {w : World} {K : Value → World → Prop} (h : evCall C P c o.type e w K) : OpSound P o a w K := by
  unfold evCall at h
  split at h
  · exact h.elim
  · rename_i vs hvs
    have hargs := evals_sound' hf hvs
    split at h
    · rename_i f hc
      split at h
      · rename_i hb
        refine opSound_enter (f := f) (args := vs.toArray) ?_ (CallsV.mono h fun v w' h => OfT_get h)
        simp only [execOp, hop, resolve, hc, hargs, Act.eval, Deferred.ofValue, Sem.run_bind, Sem.run_pure, Result.andThen_ok, invoke]
        simpa using hW.ok.body f hb vs.toArray w
      · obtain ⟨v, w', h1, h2⟩ := hW.ok.ext _ _ _ _ h
        refine opSound_value (v := v) (w' := w') ?_ h2
        simp only [execOp, hop, resolve, hc, hargs, Act.eval, Deferred.ofValue, Sem.run_bind, Sem.run_pure, Result.andThen_ok, invoke]
        simpa using h1
    · rename_i x hne hc
      split at h
      · rename_i v hv
        unfold CallFn at h
        split at h
        · rename_i l first captured
          obtain ⟨fn, tmps, assign, body, h1, h2⟩ := h
          have hr : (execOp a.eval o).run P w = .ok (.round l fn tmps assign body) w := by
            simp only [execOp, hop, resolve, hc, hargs, eval_sound hf hv, Deferred.ofValue, Sem.run_bind, Sem.run_pure, Result.andThen_ok, invoke]
            simpa using h1
          unfold OpSound
          rw [hr]
          exact RoundIn.mono h2 fun e w' ⟨v, he, hv⟩ => ⟨v, he, OfT_get hv⟩
        · rename_i f first captured
          obtain ⟨hb, h⟩ := h
          refine opSound_enter (f := f) (args := (first ++ vs.toArray) ++ captured) ?_ (CallsV.mono h fun v w' h => OfT_get h)
          simp only [execOp, hop, resolve, hc, hargs, eval_sound hf hv, Deferred.ofValue, Sem.run_bind, Sem.run_pure, Result.andThen_ok, invoke]
          simpa using hW.ok.body f hb _ w
        · exact h.elim
      · exact h.elim
    · rename_i b hc
      obtain ⟨v, w', h1, h2⟩ := h
      refine opSound_value (v := v) (w' := w') ?_ (OfT_get h2)
      simp only [execOp, hop, resolve, hc, hargs, Sem.run_bind, Sem.run_pure, Result.andThen_ok, invoke]
      refine Eq.trans (congrArg (fun f : Operand → Bool => Sem.run P (builtin b c.argTypes o.type (Array.map f c.args) vs.toArray) w) (funext fun x => ?_)) h1
      cases x <;> rfl
    · exact h.elim

theorem evMem_sound (hW : World2 P C) {a : Act} {e : Env} (hf : Fits e a.tmps) {o : Oper} {w : World} {K : Value → World → Prop} (h : evMem C P o e w K) : OpSound P o a w K := by
  unfold evMem at h
  split at h
  · rename_i t hop
    split at h
    · rename_i ti hti
      split at h
      · exact h.elim
      · rename_i ht
        obtain ⟨i, d, h1⟩ := tyIs hW.ok hti
        refine opSound_value (w' := w.alloc (.cells ti.zero.cells t)) ?_ h
        simp [execOp, hop, Instr.alloc, run_zero h1 (by simpa using ht), newVar, newRow]
    · exact h.elim
  · rename_i t x hop
    split at h
    · rename_i v hv
      refine opSound_value (w' := w.alloc (.cells v.cells t)) ?_ h
      simp [execOp, hop, Instr.box, newVar, newRow, eval_sound hf hv]
    · exact h.elim
  · rename_i t len ps hop
    split at h
    · rename_i u vs hs hvs
      split at h
      · rename_i tu htu
        split at h
        · exact h.elim
        · rename_i hcond
          obtain ⟨ti, i, td, h1, h2, h3, h4⟩ := und_shape hW.ok hs
          obtain ⟨i2, td2, h5⟩ := tyIs hW.ok htu
          cases td <;> simp [D.agrees] at h4
          subst h4
          split at h
          · rename_i cs hcs
            simp only [not_or] at hcond
            have ht : tu.isTuple = false := by simpa using hcond.1
            have hsz : tu.zero.cells.size = tu.size := by simpa using hcond.2.2.2
            refine opSound_value (w' := w.alloc (.cells cs u)) ?_ h
            have hz := zeros_eq tu.zero.cells len
            rw [hsz] at hz
            simp only [execOp, hop, Instr.buildSlice, Sem.run_bind, run_und h3.und, Result.andThen_ok, run_size h5.info, h5.size]
            rw [partsV_sound' hf hvs]
            rw [if_neg (by omega)]
            by_cases hzero : len * tu.size = 0
            · have hl0 : len = 0 := by rcases Nat.mul_eq_zero.1 hzero with h | h; exact h; exact absurd h hcond.2.1
              subst hl0
              simp only [zs] at hcs
              simp only [Nat.zero_mul, if_true, Sem.run_pure]
              simp only [Array.range_zero', List.map_toArray, List.map_nil, Sem.run_bind, Sem.run_pure, Result.andThen_ok]
              rw [hcs]
              simp [newRow]
            · rw [if_neg hzero]
              simp only [Sem.run_bind, run_zero h5 ht, Result.andThen_ok, Sem.run_pure]
              rw [hsz, hz, hcs]
              simp [newRow]
          · exact h.elim
      · exact h.elim
    · exact h.elim
  · rename_i t x hop
    split at h
    · rename_i ti ad hti hx
      split at h
      · exact h.elim
      · rename_i ht
        obtain ⟨i, d, h1⟩ := tyIs hW.ok hti
        obtain ⟨v, h2, h3⟩ := ldT_sound h1 (by simpa using ht) h
        refine opSound_value (w' := w) ?_ h3
        simp [execOp, hop, Instr.loadAt, eval_sound hf hx, Instr.sureAddr, h2]
    · exact h.elim
  · rename_i t x y hop
    split at h
    · rename_i ti ad v hti hx hy
      split at h
      · rename_i hsz
        obtain ⟨i, d, h1⟩ := tyIs hW.ok hti
        obtain ⟨w', h2, h3⟩ := stCells_sound (P := P) h
        refine opSound_skip (w' := w') ?_ h3
        simp [execOp, hop, Instr.storeAt, eval_sound hf hx, eval_sound hf hy, Instr.sureAddr, storeVar, run_size h1.info, h1.size, hsz, h2]
      · exact h.elim
    · exact h.elim
  · rename_i t l c hop
    split at h
    · rename_i l' c' hl hc
      obtain ⟨v, w', h1, h2⟩ := h
      refine opSound_value (w' := w') ?_ (OfT_get h2)
      simp [execOp, hop, eval_sound hf hl, eval_sound hf hc, h1]
    · exact h.elim
  · rename_i t x lo hi mx hop
    split at h
    · rename_i x' hx
      split at h
      case isFalse => exact h.elim
      rename_i hall
      obtain ⟨h2, h3, h4⟩ := hall
      obtain ⟨v, w', h1, h5⟩ := h
      refine opSound_value (w' := w') ?_ (OfT_get h5)
      simp only [execOp, hop, eval_sound hf hx, getD_eval hf h2, getD_eval hf h3, getD_eval hf h4, Sem.run_bind, h1, Result.andThen_ok, Sem.run_pure]
    · exact h.elim
  · rename_i t hop
    obtain ⟨v, w', h1, h2⟩ := h
    refine opSound_value (w' := w') ?_ (OfT_get h2)
    simp [execOp, hop, h1]
  · rename_i t x i ok hop
    split at h
    · rename_i x' i' hx hi
      obtain ⟨v, w', h1, h2⟩ := h
      refine opSound_value (w' := w') ?_ (OfT_get h2)
      simp [execOp, hop, eval_sound hf hx, eval_sound hf hi, h1]
    · exact h.elim
  · rename_i t m k x hop
    split at h
    · rename_i m' k' x' hm hk hx
      obtain ⟨w', h1, h2⟩ := h
      refine opSound_skip (w' := w') ?_ h2
      simp [execOp, hop, eval_sound hf hm, eval_sound hf hk, eval_sound hf hx, h1]
    · exact h.elim
  · rename_i c hop
    exact evCall_sound hW hf hop h
  · exact h.elim

end Go.Eng

/- The engine, part 7: operations one behind the other. -/
namespace Go.Eng
open Go Go.RowKit

variable {P : Program} {C : Tell}

/-- an operation that looks at no memory -/
def pureOp (o : Oper) : Bool :=
  match o.op with
  | .move _ | .assign _ | .pick .. | .build .. | .nilCheck _ | .binOp .. | .unOp .. | .convert .. | .makeFunc .. | .fieldAddr .. | .field .. | .indexAddr .. | .index .. | .extract .. => true
  | .call { callee := .builtin .len, .. } | .call { callee := .builtin .max, .. } | .call { callee := .builtin .min, .. } => true
  | _ => false

def evOp (C : Tell) (P : Program) (o : Oper) (e : Env) (w : World) (K : Value → World → Prop) : Prop :=
  if pureOp o = true then evPure C o e fun v => K v w else evMem C P o e w K

theorem evOp_sound (hW : World2 P C) {a : Act} {e : Env} (hf : Fits e a.tmps) {o : Oper} {w : World} {K : Value → World → Prop} (h : evOp C P o e w K) : OpSound P o a w K := by
  unfold evOp at h
  split at h
  · obtain ⟨v, h1, h2⟩ := evPure_sound hW hf h
    exact opSound_value (h1 w) h2
  · exact evMem_sound hW hf h

/-- the slot of the operation that a guard names -/
def slotOf (ops : List Oper) (j : Nat) : Option Nat := match ops[j]? with | some o => o.dst | none => none

/-- an operation behind its guard: what to do if it is wanted, and if it isn't -/
def guarded (ops : List Oper) (g : Option (Nat × Bool)) (e : Env) (yes no : Env → Prop) : Prop :=
  match g with
  | none => yes e
  | some (j, want) =>
    match slotOf ops j with
    | none => False
    | some d =>
      match get e d with
      | some (.bool b) =>
        if b = true then (if want = true then yes (put e d (some (.bool true))) else no (put e d (some (.bool true))))
        else (if want = true then no (put e d (some (.bool false))) else yes (put e d (some (.bool false))))
      | some (.tuple _) => no e
      | _ => False

theorem fits_put_same {e : Env} {ts : Array Value} (h : Fits e ts) {d : Nat} {v : Value} (hv : get e d = some v) : Fits (put e d (some v)) ts := by
  refine ⟨by rw [put_length]; exact h.size, fun i u hu => ?_⟩
  rw [get_put] at hu
  split at hu
  · rename_i hi
    obtain ⟨rfl, _⟩ := hi
    cases hu
    exact h.known _ _ hv
  · exact h.known i u hu

theorem guarded_sound {ops : List Oper} {o : Oper} {e : Env} {a : Act} (hf : Fits e a.tmps) {yes no : Env → Prop} (h : guarded ops o.guard e yes no) :
    ∃ e', Fits e' a.tmps ∧ ((Region.wanted o (yielded ops.toArray a.tmps) = true ∧ yes e') ∨ (Region.wanted o (yielded ops.toArray a.tmps) = false ∧ no e')) := by
  unfold guarded at h
  split at h
  · rename_i hg
    exact ⟨e, hf, .inl ⟨by simp [Region.wanted, hg], h⟩⟩
  · rename_i j want hg
    split at h
    · exact h.elim
    · rename_i d hd
      have hslot : ((ops.toArray)[j]?).bind (·.dst) = some d := by
        unfold slotOf at hd
        simp only [List.getElem?_toArray]
        split at hd
        · rename_i o' ho'; rw [ho']; exact hd
        · cases hd
      split at h
      · rename_i b hb
        have hk := hf.known _ _ hb
        have hy : yielded ops.toArray a.tmps j = some b := by unfold yielded; rw [hslot, Option.bind_some, hk]
        have hfp := fits_put_same hf hb
        split at h
        · rename_i hbt
          subst hbt
          refine ⟨_, hfp, ?_⟩
          split at h
          · rename_i hw; exact .inl ⟨by simp [Region.wanted, hg, hy, hw], h⟩
          · rename_i hw; exact .inr ⟨by simp [Region.wanted, hg, hy, hw], h⟩
        · rename_i hbt
          have hbf : b = false := by simpa using hbt
          subst hbf
          refine ⟨_, hfp, ?_⟩
          split at h
          · rename_i hw; exact .inr ⟨by simp [Region.wanted, hg, hy, hw], h⟩
          · rename_i hw; exact .inl ⟨by simp [Region.wanted, hg, hy, hw], h⟩
      · rename_i vs hb
        have hk := hf.known _ _ hb
        have hy : yielded ops.toArray a.tmps j = none := by unfold yielded; rw [hslot, Option.bind_some, hk]
        exact ⟨e, hf, .inr ⟨by simp [Region.wanted, hg, hy], h⟩⟩
      · exact h.elim

/-- operations in the order of the text -/
def evOps (C : Tell) (P : Program) (ops : List Oper) : List Oper → Env → World → (Env → World → Prop) → Prop
  | [], e, w, k => k e w
  | o :: rest, e, w, k =>
    guarded ops o.guard e (fun e => evOp C P o e w fun v w => evOps C P ops rest (putO e o.dst v) w k)
      (fun e => evOps C P ops rest (putO e o.dst undef) w k)

/-- what is known of the slots, and of the deferred calls -/
structure Stands (ds : List Deferred) (e : Env) (a : Act) : Prop where
  fits : Fits e a.tmps
  defers : a.defers = ds

theorem Stands.put {ds : List Deferred} {e : Env} {a : Act} (h : Stands ds e a) (d : Option Nat) (v : Value) : Stands ds (putO e d v) (a.put d v) :=
  ⟨h.fits.put d v, by cases d <;> exact h.defers⟩

theorem evOps_sound (hW : World2 P C) {l : Option Nat} {ds : List Deferred} {ops : List Oper} {Q : Exit → Act → World → Prop} : ∀ {r : List Oper} {e : Env} {a : Act} {w : World} {k : Env → World → Prop},
    Stands ds e a → evOps C P ops r e w k → (∀ e a w, Stands ds e a → k e w → Q .normal a w) → wpListIn (Fr l) 0 P ops.toArray Q r a w
  | [], _, _, _, _, hs, h, hQ => hQ _ _ _ hs h
  | o :: rest, e, a, w, k, hs, h, hQ => by
    simp only [evOps] at h
    obtain ⟨e', hf, h⟩ := guarded_sound hs.fits h
    unfold wpListIn
    rcases h with ⟨hw, h⟩ | ⟨hw, h⟩
    · rw [if_pos hw]
      refine (evOp_sound hW hf h).wp _ _ fun v w' h => ?_
      exact evOps_sound hW (Stands.put ⟨hf, hs.defers⟩ o.dst v) h hQ
    · rw [if_neg (by rw [hw]; simp)]
      exact ⟨fun _ _ => fr_fn, evOps_sound hW (Stands.put ⟨hf, hs.defers⟩ o.dst undef) h hQ⟩

end Go.Eng

/- The engine, part A: regions that draw their order: operations that come to the same whenever they are done. -/
namespace Go.Eng
open Go Go.RowKit

variable {P : Program} {C : Tell}

def bit : List Bool → Nat → Bool
  | [], _ => false
  | b :: _, 0 => b
  | _ :: bs, n + 1 => bit bs n

def isLoad (o : Oper) : Bool := match o.op with | .load .. => true | _ => false
def isQCall (C : Tell) (o : Oper) : Bool := match o.op with | .call { callee := .value (.func f), .. } => C.quiet f | _ => false

def noSelB (o : Oper) : Bool := match o.op with | .select .. => false | _ => true
def noSel (o : Oper) : Prop := ∀ cs b, o.op ≠ .select cs b
theorem noSelB_spec {o : Oper} (h : noSelB o = true) : noSel o := by
  intro cs b he
  simp [noSelB, he] at h

/-- j waits for i -/
def waits (ops : Array Oper) (j i : Nat) : Bool :=
  match ops[j]? with
  | some o => o.after.any fun e => Region.binds .any e && e.on == i
  | none => false

def allOn (o : Oper) (f : Nat → Bool) : Bool := o.after.all fun e => !Region.binds .any e || f e.on

theorem allOn_spec {o : Oper} {f : Nat → Bool} : allOn o f = true ↔ ∀ e ∈ o.after, Region.binds .any e = true → f e.on = true := by
  unfold allOn
  rw [Array.all_eq_true_iff_forall_mem]
  constructor
  · intro h e he hb
    have := h e he
    simpa [hb] using this
  · intro h e he
    cases hb : Region.binds .any e with
    | false => rfl
    | true => simpa using h e he hb

/-- a world that has grown (g), or the same -/
def Gr (g : Bool) (w w1 : World) : Prop := if g = true then Below w.heap.size w w1 else w1 = w

theorem Gr.refl (g : Bool) (w : World) : Gr g w w := by
  unfold Gr; split
  · exact Below.refl _ _
  · rfl

/-- an operation that leaves alone what is there, and comes to v from w0 on -/
def QuietR (P : Program) (q : Bool) (s : Sem Next) (w0 : World) (v : Value) : Prop :=
  ∀ w1, Below w0.heap.size w0 w1 → s.run P w1 = .ok (.value v) w1 ∨
    (q = true ∧ ∃ f args, s.run P w1 = .ok (.enter f args) w1 ∧ CallsV P f args w1 fun u w2 => u = v ∧ Below w1.heap.size w1 w2)

/-- an operation whose value is known: its place, itself, the value, what must stay as it is, is it a call -/
structure Pend where
  i : Nat
  o : Oper
  v : Value
  st : World → Prop
  q : Bool

def Yr (P : Program) (ops : Array Oper) (x : Pend) (a : Act) : Prop :=
  (Region.wanted x.o (yielded ops a.tmps) = true ∧ (∀ w, x.st w → QuietR P x.q (execOp a.eval x.o) w x.v) ∧ (pureOp x.o = true → Still P a x.o x.v)) ∨
  (Region.wanted x.o (yielded ops a.tmps) = false ∧ x.v = undef)

section
variable {ops : Array Oper} {Q : Exit → Act → World → Prop}

theorem Yr.of_same {x : Pend} {a a' : Act} (hy : Yr P ops x a) (he : execOp a'.eval x.o = execOp a.eval x.o)
    (hw : Region.wanted x.o (yielded ops a'.tmps) = Region.wanted x.o (yielded ops a.tmps)) : Yr P ops x a' := by
  unfold Yr Still at *
  rw [he, hw]
  exact hy

theorem Yr.wpOp {l : Option Nat} {x : Pend} {a : Act} (hi : ops[x.i]? = some x.o) (hy : Yr P ops x a) {K : Act → World → Prop} {w : World} (hst : x.st w)
    (h : ∀ w2, (if x.q = true then Below w.heap.size w w2 else w2 = w) → K (a.put x.o.dst x.v) w2) : wpOpIn (Fr l) 0 P ops Q x.i K a w := by
  have hsame : (if x.q = true then Below w.heap.size w w else w = w) := by split <;> first | exact Below.refl _ _ | rfl
  unfold Go.wpOpIn
  simp only [hi]
  rcases hy with ⟨hw, hq, _⟩ | ⟨hw, hv⟩
  · simp only [hw, if_true]
    have hs : OpSound P x.o a w fun v w2 => v = x.v ∧ (if x.q = true then Below w.heap.size w w2 else w2 = w) := by
      unfold OpSound
      rcases hq w hst w (Below.refl _ _) with h1 | ⟨hxq, f, args, h1, h2⟩
      · rw [h1]; exact ⟨rfl, hsame⟩
      · rw [h1]
        exact CallsV.mono h2 fun u w2 ⟨hu, hg⟩ => ⟨hu, by rw [if_pos hxq]; exact hg⟩
    exact hs.wp _ _ fun v w2 ⟨hv, h2⟩ => by subst hv; exact h w2 h2
  · simp only [hw, Bool.false_eq_true, if_false]; rw [← hv]; exact ⟨fun _ _ => fr_fn, h _ hsame⟩

/-- operations with their values, one behind the other -/
def Chain (P : Program) (ops : Array Oper) : List Pend → Act → Prop
  | [], _ => True
  | x :: l, a => Yr P ops x a ∧ Chain P ops l (a.put x.o.dst x.v)

def putAll : List Pend → Act → Act
  | [], a => a
  | x :: l, a => putAll l (a.put x.o.dst x.v)

theorem putAll_append : ∀ (l l' : List Pend) (a : Act), putAll (l ++ l') a = putAll l' (putAll l a)
  | [], _, _ => rfl
  | x :: l, l', a => putAll_append l l' _

theorem Chain.snoc : ∀ {l : List Pend} {x : Pend} {a : Act}, Chain P ops l a → Yr P ops x (putAll l a) → Chain P ops (l ++ [x]) a
  | [], _, _, _, hx => ⟨hx, trivial⟩
  | _ :: _, _, _, h, hx => ⟨h.1, h.2.snoc hx⟩

theorem Yr.put {x : Pend} {a : Act} {o : Oper} {v : Value} (hap : x.o.apart ops o = true) (hs : noSel x.o) (h : Yr P ops x a) : Yr P ops x (a.put o.dst v) := by
  obtain ⟨_, _, h3⟩ := Oper.apart_spec hap
  exact h.of_same (execOp_put x.o hs a o.dst v h3) (wanted_put x.o a o.dst v h3)

theorem put_comm' {x o : Oper} (hap : x.apart ops o = true) (a : Act) (u v : Value) : (a.put x.dst u).put o.dst v = (a.put o.dst v).put x.dst u := by
  obtain ⟨_, h2, _⟩ := Oper.apart_spec hap
  exact Act.put_comm a u v h2

/-- something else is done first -/
theorem Chain.put : ∀ {l : List Pend} {a : Act} {o : Oper} {v : Value}, (∀ x ∈ l, x.o.apart ops o = true ∧ noSel x.o) → Chain P ops l a → Chain P ops l (a.put o.dst v)
  | [], _, _, _, _, _ => trivial
  | x :: l, a, o, v, hl, h => by
    have hx := hl x (List.mem_cons_self ..)
    refine ⟨h.1.put hx.1 hx.2, ?_⟩
    rw [← put_comm' hx.1]
    exact Chain.put (fun y hy => hl y (List.mem_cons_of_mem _ hy)) h.2

theorem putAll_put : ∀ {l : List Pend} {a : Act} {o : Oper} {v : Value}, (∀ x ∈ l, x.o.apart ops o = true) → putAll l (a.put o.dst v) = (putAll l a).put o.dst v
  | [], _, _, _, _ => rfl
  | x :: l, a, o, v, hl => by
    have hx := hl x (List.mem_cons_self ..)
    show putAll l ((a.put o.dst v).put x.o.dst x.v) = _
    rw [← put_comm' hx]
    exact putAll_put (fun y hy => hl y (List.mem_cons_of_mem _ hy))

theorem execOp_putAll : ∀ {l : List Pend} {a : Act} {o : Oper}, (∀ x ∈ l, x.o.apart ops o = true) → noSel o → execOp (putAll l a).eval o = execOp a.eval o ∧ Region.wanted o (yielded ops (putAll l a).tmps) = Region.wanted o (yielded ops a.tmps)
  | [], _, _, _, _ => ⟨rfl, rfl⟩
  | x :: l, a, o, hl, hs => by
    have hx := hl x (List.mem_cons_self ..)
    obtain ⟨h1, _, _⟩ := Oper.apart_spec hx
    obtain ⟨h2, h3⟩ := execOp_putAll (a := a.put x.o.dst x.v) (fun y hy => hl y (List.mem_cons_of_mem _ hy)) hs
    exact ⟨h2.trans (execOp_put o hs a x.o.dst x.v h1), h3.trans (wanted_put o a x.o.dst x.v h1)⟩

/-- an operation that waits for none of those ahead of it can be done first -/
theorem Chain.pull {x : Pend} : ∀ (l1 : List Pend) {l2 : List Pend} {a : Act},
    (∀ y ∈ l1, y.o.apart ops x.o = true ∧ noSel y.o) → noSel x.o → Chain P ops (l1 ++ x :: l2) a →
    Yr P ops x a ∧ Chain P ops (l1 ++ l2) (a.put x.o.dst x.v) ∧ putAll (l1 ++ x :: l2) a = putAll (l1 ++ l2) (a.put x.o.dst x.v)
  | [], _, _, _, _, h => ⟨h.1, h.2, rfl⟩
  | y :: l1, l2, a, hl, hs, h => by
    obtain ⟨h1, h2⟩ := h
    obtain ⟨h3, h4, h5⟩ := Chain.pull l1 (fun z hz => hl z (List.mem_cons_of_mem _ hz)) hs h2
    have hy := hl y (List.mem_cons_self ..)
    obtain ⟨g1, _, _⟩ := Oper.apart_spec hy.1
    have h6 : Yr P ops x a := h3.of_same (execOp_put x.o hs a y.o.dst y.v g1).symm (wanted_put x.o a y.o.dst y.v g1).symm
    refine ⟨h6, ⟨h1.put hy.1 hy.2, ?_⟩, ?_⟩
    · rw [← put_comm' hy.1]; exact h4
    · show putAll (l1 ++ x :: l2) (a.put y.o.dst y.v) = putAll (l1 ++ l2) ((a.put x.o.dst x.v).put y.o.dst y.v)
      rw [h5, put_comm' hy.1]

/-- what each waits for is done, or stands ahead of it -/
def DepOrd : Array Bool → List Pend → Prop
  | _, [] => True
  | L, x :: l => (∀ e ∈ x.o.after, Region.binds .any e = true → L.getD e.on false = true) ∧ DepOrd (L.setIfInBounds x.i true) l

theorem getD_mono {L L' : Array Bool} (i : Nat) (hs : L.size = L'.size) (h : ∀ j, L.getD j false = true → L'.getD j false = true) (j : Nat) (hj : (L.setIfInBounds i true).getD j false = true) : (L'.setIfInBounds i true).getD j false = true := by
  by_cases hij : i = j
  · subst hij
    have hlt : i < L.size := by
      rcases Nat.lt_or_ge i L.size with h' | h'
      · exact h'
      · rw [Array.getD_eq_getD_getElem?] at hj
        simp [Array.getElem?_eq_none (show (L.setIfInBounds i true).size ≤ i by simpa using h')] at hj
    rw [Array.getD_eq_getD_getElem?]
    simp [show i < L'.size by omega]
  · rw [getD_set_ne false hij] at hj ⊢
    exact h j hj

theorem DepOrd.mono : ∀ {l : List Pend} {L L' : Array Bool}, L.size = L'.size → (∀ j, L.getD j false = true → L'.getD j false = true) → DepOrd L l → DepOrd L' l
  | [], _, _, _, _, _ => trivial
  | x :: l, L, L', hs, hm, h => ⟨fun e he hb => hm _ (h.1 e he hb), DepOrd.mono (by simpa using hs) (getD_mono x.i hs hm) h.2⟩

theorem DepOrd.pull {x : Pend} : ∀ (l1 : List Pend) {l2 : List Pend} {L : Array Bool}, (∀ y ∈ l1, y.i ≠ x.i) → DepOrd L (l1 ++ x :: l2) → DepOrd (L.setIfInBounds x.i true) (l1 ++ l2)
  | [], _, _, _, h => h.2
  | y :: l1, l2, L, hne, h => by
    refine ⟨fun e he hb => getD_set_true (h.1 e he hb), ?_⟩
    rw [Array.setIfInBounds_comm _ _ (Ne.symm (hne y (List.mem_cons_self ..)))]
    exact DepOrd.pull l1 (fun z hz => hne z (List.mem_cons_of_mem _ hz)) h.2

theorem DepOrd.snoc {x : Pend} : ∀ {l : List Pend} {L : Array Bool}, (∀ y ∈ l, y.i < L.size) → DepOrd L l → (∀ e ∈ x.o.after, Region.binds .any e = true → L.getD e.on false = true ∨ ∃ y ∈ l, y.i = e.on) → DepOrd L (l ++ [x])
  | [], _, _, _, hx => ⟨fun e he hb => (hx e he hb).resolve_right (by rintro ⟨y, hy, _⟩; cases hy), trivial⟩
  | y :: l, L, hl, h, hx => ⟨h.1, DepOrd.snoc (fun z hz => by simpa using hl z (List.mem_cons_of_mem _ hz)) h.2 fun e he hb => by
      rcases hx e he hb with h1 | ⟨z, hz, hze⟩
      · exact .inl (getD_set_true h1)
      · rcases List.mem_cons.1 hz with hz | hz
        · subst hz
          refine .inl ?_
          rw [← hze, Array.getD_eq_getD_getElem?]
          simp [hl z (List.mem_cons_self ..)]
        · exact .inr ⟨z, hz, hze⟩⟩

/-- an element's dependences are done or stand ahead of it -/
theorem DepOrd.deps {x : Pend} : ∀ {l1 l2 : List Pend} {L : Array Bool}, DepOrd L (l1 ++ x :: l2) → ∀ e ∈ x.o.after, Region.binds .any e = true → L.getD e.on false = true ∨ ∃ y ∈ l1, y.i = e.on
  | [], _, _, h, e, he, hb => .inl (h.1 e he hb)
  | y :: l1, l2, L, h, e, he, hb => by
    rcases DepOrd.deps h.2 e he hb with h1 | ⟨z, hz, hze⟩
    · by_cases hy : y.i = e.on
      · exact .inr ⟨y, List.mem_cons_self .., hy⟩
      · rw [getD_set_ne false hy] at h1; exact .inl h1
    · exact .inr ⟨z, List.mem_cons_of_mem _ hz, hze⟩

end
end Go.Eng

/- The engine, part B: regions that draw, read off their text. -/
namespace Go.Eng
open Go Go.RowKit

variable {P : Program} {C : Tell}

def isRd (C : Tell) (o : Oper) : Bool := !pureOp o && (isLoad o || isQCall C o)
def quick (C : Tell) (o : Oper) : Bool := pureOp o || isLoad o || isQCall C o

def uBits (r : Nat) : List Oper → Nat → List Bool → List Bool
  | [], _, acc => acc
  | o :: rest, i, acc => uBits r rest (i + 1) (acc ++ [i != r && allOn o (bit acc)])

def enumL : List Oper → Nat → List (Nat × Oper)
  | [], _ => []
  | o :: r, i => (i, o) :: enumL r (i + 1)

theorem mem_enumL : ∀ {l : List Oper} {i j : Nat} {o : Oper}, l[j]? = some o → (i + j, o) ∈ enumL l i
  | [], _, _, _, h => by simp at h
  | x :: l, i, 0, o, h => by
    simp at h; subst h; exact List.mem_cons_self ..
  | x :: l, i, j + 1, o, h => by
    have h' : l[j]? = some o := by simpa using h
    have := mem_enumL (i := i + 1) h'
    rw [show i + (j + 1) = i + 1 + j by omega]
    exact List.mem_cons_of_mem _ this

def uOf (ops : List Oper) (r j : Nat) : Bool := bit (uBits r ops 0 []) j

def checkDraw (C : Tell) (ops : List Oper) : Bool :=
  let arr := ops.toArray
  let en := enumL ops 0
  ops.all noSelB &&
  en.all (fun x => en.all fun y => x.1 == y.1 || (x.2.apart arr y.2 || waits arr x.1 y.1 || waits arr y.1 x.1)) &&
  en.all (fun x => !isRd C x.2 || en.all fun y => y.1 == x.1 || !allOn y.2 (bit (uBits x.1 ops 0 [])) || bit (uBits x.1 ops 0 []) y.1)

structure DrawOk (C : Tell) (ops : List Oper) : Prop where
  sel : ∀ (i : Nat) (o : Oper), ops[i]? = some o → noSel o
  pairs : ∀ (i j : Nat) (oi oj : Oper), ops[i]? = some oi → ops[j]? = some oj → i ≠ j → oi.apart ops.toArray oj = true ∨ waits ops.toArray i j = true ∨ waits ops.toArray j i = true
  uClosed : ∀ (r j : Nat) (o o' : Oper), ops[r]? = some o' → isRd C o' = true → ops[j]? = some o → j ≠ r → (∀ e ∈ o.after, Region.binds .any e = true → uOf ops r e.on = true) → uOf ops r j = true

theorem checkDraw_spec {ops : List Oper} (h : checkDraw C ops = true) : DrawOk C ops := by
  unfold checkDraw at h
  simp only [Bool.and_eq_true] at h
  obtain ⟨⟨h1, h2⟩, h3⟩ := h
  have hm : ∀ {i : Nat} {o : Oper}, ops[i]? = some o → (i, o) ∈ enumL ops 0 := fun {i o} ho => by
    have := mem_enumL (i := 0) (j := i) (o := o) (l := ops) ho
    simpa using this
  refine ⟨fun i o ho => noSelB_spec (List.all_eq_true.1 h1 o (List.mem_of_getElem? ho)), fun i j oi oj hi hj hne => ?_, fun r j o o' hr hrd hj hne hall => ?_⟩
  · have := List.all_eq_true.1 (List.all_eq_true.1 h2 _ (hm hi)) _ (hm hj)
    simp only [Bool.or_eq_true, beq_iff_eq] at this
    rcases this with h | (h | h) | h
    · exact absurd h hne
    · exact .inl h
    · exact .inr (.inl h)
    · exact .inr (.inr h)
  · have := List.all_eq_true.1 h3 _ (hm hr)
    simp only [hrd, Bool.not_true, Bool.false_or] at this
    have := List.all_eq_true.1 this _ (hm hj)
    simp only [Bool.or_eq_true, beq_iff_eq, Bool.not_eq_true'] at this
    rcases this with (h | h) | h
    · exact absurd h hne
    · have h5 : allOn o (bit (uBits r ops 0 [])) = true := allOn_spec.2 hall
      rw [h5] at h; cases h
    · exact h

theorem bit_lt : ∀ {l : List Bool} {i : Nat}, bit l i = true → i < l.length
  | [], _, h => by simp [bit] at h
  | _ :: _, 0, _ => by simp
  | _ :: l, i + 1, h => by have := bit_lt (l := l) (i := i) h; simp; omega

theorem bit_getD : ∀ (l : List Bool) (i : Nat), l.toArray.getD i false = bit l i := by
  intro l i
  have : ∀ (l : List Bool) (i : Nat), (l[i]?).getD false = bit l i := by
    intro l
    induction l with
    | nil => intro i; simp [bit]
    | cons b l ih => intro i; cases i <;> simp [bit, ih]
  rw [Array.getD_eq_getD_getElem?]
  simpa using this l i

def setB : List Bool → Nat → List Bool
  | [], _ => []
  | _ :: bs, 0 => true :: bs
  | b :: bs, n + 1 => b :: setB bs n

theorem setB_length : ∀ (l : List Bool) (i : Nat), (setB l i).length = l.length
  | [], _ => rfl
  | _ :: _, 0 => rfl
  | _ :: l, i + 1 => by simp [setB, setB_length l i]

theorem bit_setB : ∀ (l : List Bool) (i j : Nat), bit (setB l i) j = if i = j ∧ i < l.length then true else bit l j
  | [], i, j => by simp [setB]
  | b :: l, 0, 0 => by simp [setB, bit]
  | b :: l, 0, j + 1 => by simp [setB, bit]
  | b :: l, i + 1, 0 => by simp [setB, bit]
  | b :: l, i + 1, j + 1 => by
    simp only [setB, bit, bit_setB l i j, List.length_cons]
    by_cases h : i = j <;> simp [h]

/-- how many are not done -/
def un : List Bool → Nat
  | [] => 0
  | b :: l => (if b = true then 0 else 1) + un l

theorem un_setB : ∀ {l : List Bool} {i : Nat}, bit l i = false → i < l.length → un (setB l i) + 1 = un l
  | [], _, _, h => by simp at h
  | b :: l, 0, hb, _ => by
    have hb' : b = false := hb
    subst hb'
    simp [setB, un]
    omega
  | b :: l, i + 1, hb, hl => by
    have := un_setB (l := l) (i := i) hb (by simpa using hl)
    simp only [setB, un]
    omega

theorem un_pos {l : List Bool} {i : Nat} (hb : bit l i = false) (hl : i < l.length) : 0 < un l := by
  have := un_setB hb hl
  omega

/-- the first operation not done that leaves alone what is there, and for which all it waits for is done -/
def firstQ (C : Tell) (L : List Bool) : List Oper → Nat → Option (Nat × Oper)
  | [], _ => none
  | o :: r, i => if (!bit L i && quick C o && allOn o (bit L)) = true then some (i, o) else firstQ C L r (i + 1)

theorem firstQ_some {L : List Bool} : ∀ {ops : List Oper} {i j : Nat} {o : Oper}, firstQ C L ops i = some (j, o) → bit L j = false ∧ quick C o = true ∧ allOn o (bit L) = true ∧ ∃ n, j = i + n ∧ ops[n]? = some o
  | [], _, _, _, h => by simp [firstQ] at h
  | x :: r, i, j, o, h => by
    simp only [firstQ] at h
    split at h
    · rename_i hc
      simp only [Bool.and_eq_true, Bool.not_eq_true'] at hc
      simp only [Option.some.injEq, Prod.mk.injEq] at h
      obtain ⟨rfl, rfl⟩ := h
      exact ⟨hc.1.1, hc.1.2, hc.2, 0, rfl, rfl⟩
    · obtain ⟨h1, h2, h3, n, h4, h5⟩ := firstQ_some h
      exact ⟨h1, h2, h3, n + 1, by omega, by simpa using h5⟩

/-- those not done for which all they wait for is done -/
def readyB (L : List Bool) : List Oper → Nat → List (Nat × Oper)
  | [], _ => []
  | o :: r, i => if (!bit L i && allOn o (bit L)) = true then (i, o) :: readyB L r (i + 1) else readyB L r (i + 1)

theorem mem_readyB {L : List Bool} : ∀ {ops : List Oper} {i n : Nat} {o : Oper}, ops[n]? = some o → bit L (i + n) = false → allOn o (bit L) = true → (i + n, o) ∈ readyB L ops i
  | [], _, _, _, h, _, _ => by simp at h
  | x :: r, i, 0, o, h, h1, h2 => by
    simp at h; subst h
    have h1' : bit L i = false := h1
    simp [readyB, h1', h2]
  | x :: r, i, n + 1, o, h, h1, h2 => by
    have := mem_readyB (L := L) (ops := r) (i := i + 1) (n := n) (o := o) (by simpa using h) (by rw [show i + 1 + n = i + (n + 1) by omega]; exact h1) h2
    rw [show i + (n + 1) = i + 1 + n by omega]
    simp only [readyB]
    split
    · exact List.mem_cons_of_mem _ this
    · exact this

theorem readyB_mem {L : List Bool} : ∀ {ops : List Oper} {i j : Nat} {o : Oper}, (j, o) ∈ readyB L ops i → bit L j = false ∧ allOn o (bit L) = true ∧ ∃ n, j = i + n ∧ ops[n]? = some o
  | [], _, _, _, h => by simp [readyB] at h
  | x :: r, i, j, o, h => by
    simp only [readyB] at h
    split at h
    · rename_i hc
      simp only [Bool.and_eq_true, Bool.not_eq_true'] at hc
      rcases List.mem_cons.1 h with h | h
      · simp only [Prod.mk.injEq] at h
        obtain ⟨rfl, rfl⟩ := h
        exact ⟨hc.1, hc.2, 0, rfl, rfl⟩
      · obtain ⟨h1, h2, n, h3, h4⟩ := readyB_mem h
        exact ⟨h1, h2, n + 1, by omega, by simpa using h4⟩
    · obtain ⟨h1, h2, n, h3, h4⟩ := readyB_mem h
      exact ⟨h1, h2, n + 1, by omega, by simpa using h4⟩

/-- what must stay for a load to come to the same -/
def stCs : List Value → Addr → Nat → World → Prop
  | [], _, _, _ => True
  | [v], a, i, w => w.cell? (a.add i) = some v
  | v :: u :: vs, a, i, w => w.cell? (a.add i) = some v ∧ stCs (u :: vs) a (i + 1) w

def stT (ti : TI) (a : Addr) (v : Value) (w : World) : Prop :=
  match ti.agg, v with
  | true, .agg vs => stCs vs.toList a 0 w
  | true, _ => False
  | false, v => w.cell? a = some v

/-- an operation that leaves alone what is there: what it comes to, and what must stay as it is -/
def evQ (C : Tell) (P : Program) (o : Oper) (e : Env) (w : World) (K : Value → (World → Prop) → Prop) : Prop :=
  if pureOp o = true then evPure C o e fun v => K v fun _ => True
  else
    match o.op with
    | .load t x =>
      match C.ty t, eval e x with
      | some ti, some (.pointer (some a)) => if ti.isTuple = true then False else ldT ti a w fun v => K v (stT ti a v)
      | _, _ => False
    | .call c =>
      match c.callee, evals e c.args.toList with
      | .value (.func f), some vs => if C.body f = true then exT C o.type fun v => QCall P f vs.toArray w v ∧ K v (fun w => QCall P f vs.toArray w v) else False
      | _, _ => False
    | _ => False

theorem stCs_cons {v : Value} {vs : List Value} {a : Addr} {i : Nat} {w : World} : stCs (v :: vs) a i w ↔ w.cell? (a.add i) = some v ∧ stCs vs a (i + 1) w := by
  cases vs with
  | nil => simp [stCs]
  | cons u vs => exact Iff.rfl

theorem ldCells_get {w : World} : ∀ {ss : List Sh} {a : Addr} {i : Nat} {acc : List Value} {k : List Value → Prop}, ldCells ss a i w acc k →
    ∃ vs : List Value, vs.length = ss.length ∧ stCs vs a i w ∧ k (acc ++ vs)
  | [], _, _, acc, _, h => ⟨[], rfl, trivial, by simp only [ldCells] at h; simpa using h⟩
  | s :: ss, a, i, acc, k, h => by
    simp only [ldCells, Ld] at h
    obtain ⟨v, hv, h⟩ := exSh_get h
    obtain ⟨vs, h1, h2, h3⟩ := ldCells_get h
    exact ⟨v :: vs, by simp [h1], stCs_cons.2 ⟨hv, h2⟩, by simpa using h3⟩

theorem stCs_run {w : World} : ∀ {vs : List Value} {a : Addr} {i : Nat} {acc : List Value}, stCs vs a i w → (loadCellsFrom a i vs.length acc.toArray).run P w = .ok (acc ++ vs).toArray w
  | [], _, _, acc, _ => by simp [loadCellsFrom]
  | v :: vs, a, i, acc, h => by
    obtain ⟨h1, h2⟩ := stCs_cons.1 h
    simp only [List.length_cons, loadCellsFrom, Sem.run_bind, run_load_cell h1, Result.andThen_ok]
    have := stCs_run (acc := acc ++ [v]) h2
    rw [← List.push_toArray] at this
    rw [this]
    simp

theorem stCs_grow {w w1 : World} (hg : ∀ a v, w.cell? a = some v → w1.cell? a = some v) : ∀ {vs : List Value} {a : Addr} {i : Nat}, stCs vs a i w → stCs vs a i w1
  | [], _, _, _ => trivial
  | v :: vs, a, i, h => by
    obtain ⟨h1, h2⟩ := stCs_cons.1 h
    exact stCs_cons.2 ⟨hg _ _ h1, stCs_grow hg h2⟩

theorem below_cell {w w1 : World} (h : Below w.heap.size w w1) (a : Addr) (v : Value) (hv : w.cell? a = some v) : w1.cell? a = some v := by
  have hb := World.block_lt_of_cell? _ _ hv
  rw [World.cell?, h.block _ hb]
  exact hv

theorem stT_run {t : TypeId} {ti : TI} {i : TypeInfo} {d : TypeDesc} (h1 : TyIs P t ti i d) (ht : ti.isTuple = false) {a : Addr} {w : World} {v : Value} (h : stT ti a v w)
    (hl : ∀ vs, v = .agg vs → ti.agg = true → vs.size = ti.cells.length) : (loadVar t a).run P w = .ok v w := by
  unfold stT at h
  split at h
  · rename_i vs ha
    have hz := (zero_is h1 ht).2.1 ha
    have hsz := hl vs rfl ha
    have h2 := stCs_run (P := P) (acc := []) h
    have h2' : (loadCellsFrom a 0 ti.cells.length #[]).run P w = .ok vs w := by
      rw [← hsz]
      simpa using h2
    simp only [loadVar, Sem.run_bind, run_isAgg h1, ha, Result.andThen_ok, if_true, run_size h1.info, h1.size, hz, loadCells, h2', Sem.run_pure]
  · exact h.elim
  · rename_i ha
    simp [loadVar, run_isAgg h1, ha, h]

theorem evQ_sound (hW : World2 P C) {a : Act} {e : Env} (hf : Fits e a.tmps) {o : Oper} (hqk : quick C o = true) {w : World} {K : Value → (World → Prop) → Prop} (h : evQ C P o e w K) :
    ∃ (v : Value) (st : World → Prop), K v st ∧ st w ∧ (∀ w1 w2, st w1 → Below w1.heap.size w1 w2 → st w2) ∧ (∀ w, st w → QuietR P (!pureOp o && isQCall C o) (execOp a.eval o) w v) ∧ (pureOp o = true → Still P a o v) ∧ (pureOp o = true → ∀ w, st w) := by
  unfold evQ at h
  split at h
  · rename_i hp
    obtain ⟨v, h1, h2⟩ := evPure_sound hW hf h
    exact ⟨v, _, h2, trivial, fun _ _ _ _ => trivial, fun w _ w1 _ => .inl (h1 w1), fun _ => h1, fun _ _ => trivial⟩
  · rename_i hp
    have hp' : pureOp o = false := by simpa using hp
    split at h
    · rename_i t x hop
      split at h
      · rename_i ti ad hti hx
        split at h
        · exact h.elim
        · rename_i ht
          obtain ⟨i, d, h1⟩ := tyIs hW.ok hti
          have key : ∃ v, stT ti ad v w ∧ (∀ vs, v = Value.agg vs → ti.agg = true → vs.size = ti.cells.length) ∧ K v (stT ti ad v) := by
            unfold ldT at h
            split at h
            · rename_i cs ha
              obtain ⟨vs, h2, h3, h4⟩ := ldCells_get h
              refine ⟨_, ?_, ?_, h4⟩
              · unfold stT; rw [ha]; simpa using h3
              · intro us hu _
                simp only [List.nil_append, Value.agg.injEq] at hu
                rw [← hu]; simpa using h2
            · rename_i s ss ha _
              obtain ⟨v, hv, h⟩ := exSh_get h
              refine ⟨v, ?_, ?_, h⟩
              · unfold stT; rw [ha]; exact hv
              · intro us _ hc; rw [ha] at hc; cases hc
            · exact h.elim
          obtain ⟨v, h2, h3, h4⟩ := key
          refine ⟨v, _, h4, h2, fun w1 w2 hs hg => ?_, fun w0 hs w1 hg => .inl ?_, fun hc => absurd hc hp, fun hc => absurd hc hp⟩
          · unfold stT at hs ⊢
            split at hs
            · rename_i vs ha; exact stCs_grow (below_cell hg) hs
            · exact hs.elim
            · exact below_cell hg _ _ hs
          · have hs' : stT ti ad v w1 := by
              unfold stT at hs ⊢
              split at hs
              · rename_i vs ha; exact stCs_grow (below_cell hg) hs
              · exact hs.elim
              · exact below_cell hg _ _ hs
            simp [execOp, hop, Instr.loadAt, eval_sound hf hx, Instr.sureAddr, stT_run h1 (by simpa using ht) hs' h3]
      · exact h.elim
    · rename_i c hop
      split at h
      · rename_i f vs hc hvs
        split at h
        · rename_i hb
          obtain ⟨v, h1, h2⟩ := exT_get h
          have hq : isQCall C o = true := by
            unfold quick at hqk
            rw [hp'] at hqk
            simpa [isLoad, hop] using hqk
          refine ⟨v, _, h2, h1, fun w1 w2 hs hg w3 hg3 => hs w3 (hg.trans (hg3.mono hg.size)), fun w0 hs w1 hg => .inr ⟨by rw [hp', hq]; rfl, f, vs.toArray, ?_, ?_⟩, fun hc => absurd hc hp, fun hc => absurd hc hp⟩
          · simp only [execOp, hop, resolve, hc, evals_sound' hf hvs, Act.eval, Deferred.ofValue, Sem.run_bind, Sem.run_pure, Result.andThen_ok, invoke]
            simpa using hW.ok.body f hb vs.toArray w1
          · exact hs w1 hg
        · exact h.elim
      · exact h.elim
    · exact h.elim

structure Rd where
  i : Nat
  st : World → Prop
  q : Bool

/-- what reads that stand out ask of a world that the i-th operation has left -/
def keep (ops : List Oper) (i : Nat) (w : World) (K : Prop) : List Rd → Prop
  | [] => K
  | r :: rs => if uOf ops r.i i = true then r.st w ∧ keep ops i w K rs else keep ops i w K rs

theorem keep_spec {ops : List Oper} {i : Nat} {w : World} {K : Prop} : ∀ {rs : List Rd}, keep ops i w K rs → K ∧ ∀ r ∈ rs, uOf ops r.i i = true → r.st w
  | [], h => ⟨h, fun _ hr => by cases hr⟩
  | r :: rs, h => by
    simp only [keep] at h
    split at h
    · obtain ⟨h1, h2⟩ := keep_spec h.2
      refine ⟨h1, fun x hx hu => ?_⟩
      rcases List.mem_cons.1 hx with hx | hx
      · subst hx; exact h.1
      · exact h2 x hx hu
    · rename_i hn
      obtain ⟨h1, h2⟩ := keep_spec h
      refine ⟨h1, fun x hx hu => ?_⟩
      rcases List.mem_cons.1 hx with hx | hx
      · subst hx; exact absurd hu hn
      · exact h2 x hx hu

def stays (ops : List Oper) (i : Nat) (rs : List Rd) : List Rd := rs.filter fun r => uOf ops r.i i

def growK (g : Bool) (w : World) (k : World → Prop) : Prop := if g = true then ∀ w1, Below w.heap.size w w1 → k w1 else k w

theorem growK_get {g : Bool} {w : World} {k : World → Prop} (h : growK g w k) {w1 : World} (hg : Gr g w w1) : k w1 := by
  unfold growK at h
  unfold Gr at hg
  split at h
  · rename_i hc; rw [if_pos hc] at hg; exact h _ hg
  · rename_i hc; rw [if_neg hc] at hg; rw [hg]; exact h

def eachK (k : Nat → Oper → Prop) : List (Nat × Oper) → Prop
  | [] => True
  | [x] => k x.1 x.2
  | x :: y :: r => k x.1 x.2 ∧ eachK k (y :: r)

theorem eachK_get {k : Nat → Oper → Prop} : ∀ {l : List (Nat × Oper)}, eachK k l → ∀ x ∈ l, k x.1 x.2
  | [], _, _, h => by cases h
  | [y], h, x, hx => by
    rcases List.mem_cons.1 hx with hx | hx
    · subst hx; exact h
    · cases hx
  | y :: z :: r, h, x, hx => by
    rcases List.mem_cons.1 hx with hx | hx
    · subst hx; exact h.1
    · exact eachK_get (l := z :: r) h.2 x hx

def evGen (C : Tell) (P : Program) (ops : List Oper) : Nat → List Bool → Env → World → Bool → List Rd → (Env → World → Prop) → Prop
  | 0, _, _, _, _, _, _ => False
  | n + 1, L, e, w, gp, rs, k =>
    match firstQ C L ops 0 with
    | some (i, o) =>
      guarded ops o.guard e
        (fun e => evQ C P o e w fun v st => evGen C P ops n (setB L i) (putO e o.dst v) w (gp || (!pureOp o && isQCall C o)) (if pureOp o = true then rs else rs ++ [⟨i, st, isQCall C o⟩]) k)
        (fun e => evGen C P ops n (setB L i) (putO e o.dst undef) w gp rs k)
    | none =>
      match readyB L ops 0 with
      | [] => growK gp w fun w => k e w
      | x :: l => growK gp w fun w => eachK (fun i o =>
          guarded ops o.guard e
            (fun e => evOp C P o e w fun v w => keep ops i w (evGen C P ops n (setB L i) (putO e o.dst v) w ((stays ops i rs).any (·.q)) (stays ops i rs) k) rs)
            (fun e => evGen C P ops n (setB L i) (putO e o.dst undef) w ((stays ops i rs).any (·.q)) (stays ops i rs) k)) (x :: l)

end Go.Eng
