/- Proofs about the front of the overload controller, part 3: EngR EngT TBase. -/
import Derived.Test.YtdodcfbmpmapmaaGreatW02
import Derived.RangeFuncIn
import Derived.RangeFuncLeaves
import Derived.RangeFuncOwn
import Derived.Test.YtdodcfbmpmapmaaGreatProg
import Derived.KernelRfl
set_option linter.all false
set_option linter.constructorNameAsVariable false
set_option linter.unusedVariables false
/- The engine, part R: ranges over functions. -/
namespace Go.Eng
open Go Go.RowKit

variable {P : Program} {C : Tell}

/-- what an iterator leaves as it was: whatever lay below B, and whatever holds cells -/
structure IterKeeps (B : Nat) (W W' : World) : Prop where
  size : W.heap.size ≤ W'.heap.size
  below : ∀ b, b < B → b < W.heap.size → W'.heap[b]? = W.heap[b]?
  cells : ∀ (b : Nat) (o : Obj), W.heap[b]? = some o → o.isCells = true → W'.heap[b]? = some o

/-- what a round leaves as it was: whatever lay at or above B -/
structure RoundKeeps (B : Nat) (W W' : World) : Prop where
  size : W.heap.size ≤ W'.heap.size
  above : ∀ b, B ≤ b → b < W.heap.size → W'.heap[b]? = W.heap[b]?

theorem IterKeeps.mono {B B' : Nat} {W W' : World} (h : IterKeeps B W W') (hB : B' ≤ B) : IterKeeps B' W W' :=
  ⟨h.size, fun b hb hl => h.below b (Nat.lt_of_lt_of_le hb hB) hl, h.cells⟩
theorem RoundKeeps.mono {B B' : Nat} {W W' : World} (h : RoundKeeps B W W') (hB : B ≤ B') : RoundKeeps B' W W' :=
  ⟨h.size, fun b hb hl => h.above b (Nat.le_trans hB hb) hl⟩
theorem RoundKeeps.refl (B : Nat) (W : World) : RoundKeeps B W W := ⟨Nat.le_refl _, fun _ _ _ => rfl⟩
theorem RoundKeeps.trans {B : Nat} {X Y Z : World} (h : RoundKeeps B X Y) (k : RoundKeeps B Y Z) : RoundKeeps B X Z :=
  ⟨Nat.le_trans h.size k.size, fun b hb hl => (k.above b hb (Nat.lt_of_lt_of_le hl h.size)).trans (h.above b hb hl)⟩
theorem IterKeeps.refl (B : Nat) (W : World) : IterKeeps B W W := ⟨Nat.le_refl _, fun _ _ _ => rfl, fun _ _ h _ => h⟩
theorem IterKeeps.trans {B : Nat} {X Y Z : World} (h : IterKeeps B X Y) (k : IterKeeps B Y Z) : IterKeeps B X Z :=
  ⟨Nat.le_trans h.size k.size, fun b hb hl => (k.below b hb (Nat.lt_of_lt_of_le hl h.size)).trans (h.below b hb hl), fun b o ho hc => k.cells b o (h.cells b o ho hc) hc⟩

theorem iterKeeps_put {B : Nat} {W : World} {l : Nat} {o o' : Obj} (hl : W.heap[l]? = some o) (ho : o.isCells = false) (hB : B ≤ l) : IterKeeps B W (W.putObj l o') :=
  ⟨by simp, fun b hb _ => World.putObj_heap_other (by omega), fun b x hx hc => by
    refine (World.putObj_heap_other (fun e => ?_)).trans hx
    subst e
    rw [hl] at hx
    cases hx
    rw [ho] at hc
    cases hc⟩
theorem roundKeeps_put {B : Nat} {W : World} {l : Nat} {o' : Obj} (hB : l < B) : RoundKeeps B W (W.putObj l o') :=
  ⟨by simp, fun b hb _ => World.putObj_heap_other (by omega)⟩

def StableAt (B : Nat) {β : Type} (J : β → World → Prop) : Prop := ∀ s A A', J s A → IterKeeps B A A' → J s A'

/-- an iterator that gives L: I is what it needs of a world -/
def IterC (P : Program) (gf : Nat) (lb : Array Value) (L : List (List Value)) (I : World → Prop) (w : World) : Prop :=
  ∀ (l : Nat) (J Jx : Nat → World → Prop) (W1 : World), w.heap.size ≤ W1.heap.size → StableAt W1.heap.size J → StableAt W1.heap.size Jx → (∀ k A, J k A → I A) →
    (∀ k x A, L[k]? = some x → J k A → YieldV P l x.toArray A fun v A' => (v = .bool true ∧ J (k + 1) A' ∧ RoundKeeps W1.heap.size A A') ∨ (v = .bool false ∧ Jx (k + 1) A' ∧ RoundKeeps W1.heap.size A A')) →
    J 0 W1 → CallsV P gf (#[.func (.yield l) #[] #[]] ++ lb) W1 fun _ W2 => J L.length W2 ∨ ∃ k, Jx k W2

/-- the way out that a round has left open, as code -/
def exitCode : Exit → Option Code
  | .ret => some .ret
  | .exit id => some (.exit id)
  | .goto l => some (.goto l)
  | _ => none

/-- what a round has to leave -/
def roundK (J : World → Prop) (Jx : Exit → World → Prop) : Exit → World → Prop
  | .normal, W => J W
  | e, W => (exitCode e).isSome = true ∧ Jx e W

/-- a range over a function, as the program sees it: np variables; a round; at its end: done; by a way out: out -/
def RangeK (C : Tell) (P : Program) (gv : Value) (np : Nat) (w : World) (round : List Value → World → (Exit → World → Prop) → Prop) (done : World → Prop) (out : Exit → World → Prop) : Prop :=
  ∃ (gf : Nat) (lb : Array Value) (L : List (List Value)) (I : World → Prop) (J : Nat → World → Prop) (Jx : Exit → World → Prop),
    gv = .func (.func gf) #[] lb ∧ C.body gf = true ∧ IterC P gf lb L I w ∧ (∀ x ∈ L, x.length = np) ∧ StableAt w.heap.size J ∧ StableAt w.heap.size Jx ∧ (∀ k A, J k A → I A) ∧ J 0 w ∧
    (∀ k x W, L[k]? = some x → J k W → round x W (roundK (J (k + 1)) Jx)) ∧
    (∀ W, J L.length W → done W) ∧ (∀ e W, Jx e W → out e W)

/-- the deferred calls of an activation: marks of ranges alone, none of which has a call to make -/
def Shut (n0 : Nat) : List Deferred → World → Prop
  | [], _ => True
  | d :: ds, w => (∃ D, d = { target := .collected D, args := #[] } ∧ n0 ≤ D ∧ w.heap[D]? = some (.deferred (some [])) ∧ ∀ d' ∈ ds, d' ≠ d) ∧ Shut n0 ds w

theorem Shut.keeps {n0 : Nat} {w w' : World} (hk : ∀ (k : Nat) (o : Obj), w.heap[k]? = some o → o.isCells = false → w'.heap[k]? = some o) : ∀ {ds : List Deferred}, Shut n0 ds w → Shut n0 ds w'
  | [], _ => trivial
  | _ :: _, ⟨⟨D, h1, h2, h3, h4⟩, h⟩ => ⟨⟨D, h1, h2, hk _ _ h3 rfl, h4⟩, Shut.keeps hk h⟩

theorem Shut.mem {n0 : Nat} {w : World} : ∀ {ds : List Deferred}, Shut n0 ds w → ∀ d ∈ ds, ∃ D, d = { target := .collected D, args := #[] } ∧ D < w.heap.size ∧ n0 ≤ D
  | [], _, _, h => by cases h
  | _ :: _, ⟨⟨D, h1, h2, h3, _⟩, h⟩, d, hd => by
    rcases List.mem_cons.1 hd with hd | hd
    · subst hd; exact ⟨D, h1, (Array.getElem?_eq_some_iff.1 h3).1, h2⟩
    · exact h.mem d hd

/-- the meaning of code that holds ranges: deferred calls may come -/
def SoundD (P : Program) (c : Code) (E : Env → World → Kont → Prop) : Prop :=
  ∀ (n0 : Nat) (ds : List Deferred) (e : Env) (w : World) (k : Kont), E e w k → n0 ≤ w.heap.size → ∀ a, Stands ds e a → Shut n0 ds w → ∀ Q : Exit → Act → World → Prop,
    (∀ x ds e a w, Stands ds e a → Shut n0 ds w → n0 ≤ w.heap.size → k x e w → Q x a w) → WP none P c Q a w

theorem Sound.toD {c : Code} {E : Env → World → Kont → Prop} (h : Sound P c E) : SoundD P c (fun e w k => E e w fun x e' w' => KeepsOthers w w' ∧ k x e' w') :=
  fun _ ds e w _ hE hn a hs hsh Q hQ => h none ds e w _ hE a hs Q fun x e' a' w' hs' ⟨hk, hkk⟩ => hQ x ds e' a' w' hs' (hsh.keeps hk.same) (Nat.le_trans hn hk.size) hkk

theorem Shut.put {n0 l : Nat} {w : World} {o : Obj} : ∀ {ds : List Deferred}, (∀ d ∈ ds, ∃ D, d = { target := .collected D, args := #[] } ∧ D ≠ l) → Shut n0 ds w → Shut n0 ds (w.putObj l o)
  | [], _, _ => trivial
  | d :: ds, hl, ⟨⟨D, h1, h2, h3, h4⟩, h⟩ => ⟨⟨D, h1, h2, by
      obtain ⟨D', h5, h6⟩ := hl d (List.mem_cons_self ..)
      rw [h1] at h5
      have : D = D' := by simpa using h5
      subst this
      exact (World.putObj_heap_other h6).trans h3, h4⟩, Shut.put (fun d hd => hl d (List.mem_cons_of_mem _ hd)) h⟩

theorem Shut.below {n0 B : Nat} {A A' : World} (hk : IterKeeps B A A') : ∀ {ds : List Deferred}, (∀ d ∈ ds, ∃ D, d = { target := .collected D, args := #[] } ∧ D < B) → Shut n0 ds A → Shut n0 ds A'
  | [], _, _ => trivial
  | d :: ds, hl, ⟨⟨D, h1, h2, h3, h4⟩, h⟩ => ⟨⟨D, h1, h2, by
      obtain ⟨D', h5, h6⟩ := hl d (List.mem_cons_self ..)
      rw [h1] at h5
      have : D = D' := by simpa using h5
      subst this
      exact (hk.below _ h6 (Array.getElem?_eq_some_iff.1 h3).1).trans h3, h4⟩, Shut.below hk (fun d hd => hl d (List.mem_cons_of_mem _ hd)) h⟩

/-- the variables of a range -/
def putPs : Env → List Nat → List Value → Env
  | e, p :: ps, x :: xs => putPs (put e p (some x)) ps xs
  | e, _, _ => e

theorem putPs_fits : ∀ {ps : List Nat} {xs : List Value} {e : Env} {ts : Array Value}, Fits e ts → Fits (putPs e ps xs) ((ps.zip xs).foldl (fun t (x : Nat × Value) => t.setIfInBounds x.1 x.2) ts)
  | [], _, _, _, h => h
  | _ :: _, [], _, _, h => h
  | p :: ps, x :: xs, e, ts, h => by
    simp only [List.zip_cons_cons, List.foldl_cons, putPs]
    refine putPs_fits ?_
    have := Fits.put (a := { tmps := ts, defers := [] }) h (some p) x
    exact this

/-- what a round may do -/
structure RoundOk (B : Nat) (W W' : World) : Prop where
  keeps : RoundKeeps B W W'
  others : KeepsOthers W W'

def rangeE (C : Tell) (P : Program) (Ea Eb : Env → World → Kont → Prop) (g : Operand) (ps : List Nat) (e : Env) (w : World) (k : Kont) : Prop :=
  match eval e g with
  | some gv => RangeK C P gv ps.length w
      (fun x W out => Ea (putPs e ps x) W fun x1 e1 W1 => x1 = .normal ∧ RoundOk w.heap.size W W1 ∧ ∀ W2, IterKeeps w.heap.size W1 W2 → W2.heap.size = W1.heap.size → Eb e1 W2 fun x2 _ W3 => RoundOk w.heap.size W2 W3 ∧ out x2 W3)
      (fun W => k .normal e W) (fun x W => k x e W)
  | none => False

theorem range_soundD (hW : World2 P C) {g : Operand} {ps : Array Tmp} {assign body : Code} {Ea Eb : Env → World → Kont → Prop} (ha : Sound P assign Ea) (hbd : Sound P body Eb) :
    SoundD P (.rangeFunc g ps assign body) (rangeE C P Ea Eb g ps.toList) := by
  intro n0 ds e w k h hn a hs hsh Q hQ
  unfold rangeE at h
  split at h
  · rename_i gv hg
    obtain ⟨gf, lb, L, I, J, Jx, hgv, hbo, hI, hL, hJ, hJx, hJI, hJ0, hround, hdone, hout⟩ := h
    subst hgv
    have hge : a.eval g = .func (.func gf) #[] lb := eval_sound hs.fits hg
    have hds : ∀ d ∈ ds, ∃ D, d = { target := .collected D, args := #[] } ∧ D < w.heap.size := fun d hd => by
      obtain ⟨D, h1, h2, _⟩ := hsh.mem d hd
      exact ⟨D, h1, h2⟩
    show (Code.rangeFunc g ps assign body).wpIn (Fr none) 0 P Q a w
    refine wpIn_rangeFunc fun fn hfn => ?_
    obtain ⟨rec, hrec⟩ : ∃ rec : LoopState → Option Code → Loop, rec = fun st pe => { state := st, pending := pe, fn, tmps := a.tmps, params := ps, assign, body, defers := w.heap.size } := ⟨_, rfl⟩
    obtain ⟨W1, hW1⟩ : ∃ W1, (w.alloc (.deferred (some []))).alloc (.loop (rec .ready none)) = W1 := ⟨_, rfl⟩
    have hL1 : W1.heap[w.heap.size + 1]? = some (.loop (rec .ready none)) := by
      rw [← hW1]; have := World.alloc_heap_new (w.alloc (.deferred (some []))) (.loop (rec .ready none)); rwa [World.size_alloc] at this
    have hK1 : W1.heap[w.heap.size]? = some (.deferred (some [])) := by
      rw [← hW1]; exact (Below.heap_alloc _ _ _ (by simp)).trans (World.alloc_heap_new w _)
    have hb1 : Below w.heap.size w W1 := by
      rw [← hW1]; exact ((Below.refl _ w).alloc (Nat.le_refl _) _).alloc (by simp) _
    have hsz1 : W1.heap.size = w.heap.size + 2 := by rw [← hW1]; simp
    have hik1 : IterKeeps w.heap.size w W1 := ⟨by omega, fun b hb _ => hb1.block b hb, fun b o ho _ => (hb1.block b (Array.getElem?_eq_some_iff.1 ho).1).trans ho⟩
    have hsh1 : Shut n0 ds W1 := hsh.keeps fun b o ho _ => (hb1.block b (Array.getElem?_eq_some_iff.1 ho).1).trans ho
    refine ⟨w.heap.size + 1, [{ target := .collected w.heap.size, args := #[] }], W1, { target := .fn (.func gf) lb, args := #[.func (.yield (w.heap.size + 1)) #[] #[]] }, W1, gf,
      #[.func (.yield (w.heap.size + 1)) #[] #[]] ++ lb, W1, ?_, ?_, ?_, ?_, fr_depth, ?_⟩
    · rw [← hW1, hrec]; exact run_enterLoop_outer _ _ _ _ _
    · simp only [resolve, hge]
      simp [go_sem]
    · intro f' _; trivial
    · simp [invoke, go_sem, hW.ok.body gf hbo]
    · have hlD : ∀ d ∈ ds, ∃ D, d = { target := .collected D, args := #[] } ∧ D ≠ w.heap.size + 1 := fun d hd => by
        obtain ⟨D, h1, h2⟩ := hds d hd
        exact ⟨D, h1, by omega⟩
      have hcall := hI (w.heap.size + 1)
        (fun k W => J k W ∧ W.heap[w.heap.size + 1]? = some (.loop (rec .ready none)) ∧ W.heap[w.heap.size]? = some (.deferred (some [])) ∧ Shut n0 ds W)
        (fun _ W => ∃ x c, exitCode x = some c ∧ Jx x W ∧ W.heap[w.heap.size + 1]? = some (.loop (rec .done (some c))) ∧ W.heap[w.heap.size]? = some (.deferred (some [])) ∧ Shut n0 ds W)
        W1 (by omega) ?_ ?_ (fun k A h => hJI k A h.1) ?_ ⟨hJ 0 _ _ hJ0 hik1, hL1, hK1, hsh1⟩
      · refine CallsIn.mono (F := Fr none) (callsIn_wide.2 hcall : CallsIn Fence.wide (0 - 1) P gf _ W1 _) ?_
        rintro e2 W2 ⟨v, rfl, hv⟩
        have shut : ∀ st pe o, W2.heap[w.heap.size + 1]? = some (.loop (rec st pe)) → W2.heap[w.heap.size]? = some (.deferred (some [])) → Shut n0 ds W2 →
            Shut n0 ({ target := .collected w.heap.size, args := #[] } :: ds) (W2.putObj (w.heap.size + 1) o) := fun st pe o h1 h2 h3 =>
          ⟨⟨w.heap.size, rfl, hn, (World.putObj_heap_other (by omega)).trans h2, fun d' hd' hc => by
            obtain ⟨D, h4, h5⟩ := hds d' hd'
            rw [h4] at hc
            simp at hc
            omega⟩, h3.put hlD⟩
        have hst : Stands ({ target := .collected w.heap.size, args := #[] } :: ds) e { a with defers := [{ target := .collected w.heap.size, args := #[] }] ++ a.defers } := ⟨hs.fits, by simp [hs.defers]⟩
        rcases hv with ⟨hj, hl, hd, hsh2⟩ | ⟨_, x, c, hxc, hj, hl, hd, hsh2⟩
        · have hend := run_endLoop (P := P) hl (by rw [hrec]; simp)
          have hlt := (Array.getElem?_eq_some_iff.1 hl).1
          refine ⟨none, _, by rw [hrec] at hend; exact hend, ?_⟩
          exact hQ .normal _ e _ _ hst (shut _ _ _ hl hd hsh2) (by simp; omega) (hdone _ (hJ _ _ _ hj (iterKeeps_put hl rfl (by omega))))
        · have hend := run_endLoop (P := P) hl (by rw [hrec]; simp)
          have hlt := (Array.getElem?_eq_some_iff.1 hl).1
          refine ⟨some c, _, by rw [hrec] at hend; exact hend, ?_⟩
          have hk := hQ x _ e _ _ hst (shut _ _ _ hl hd hsh2) (by simp; omega) (hout x _ (hJx _ _ _ hj (iterKeeps_put (o' := .loop { rec .done (some c) with state := .exhausted }) hl rfl (by omega))))
          rw [hrec] at hk
          cases x with
          | ret => simp only [exitCode, Option.some.injEq] at hxc; subst hxc; exact wpIn_ret hk
          | exit id => simp only [exitCode, Option.some.injEq] at hxc; subst hxc; exact wpIn_exit hk
          | goto l => simp only [exitCode, Option.some.injEq] at hxc; subst hxc; exact wpIn_goto hk
          | _ => cases hxc
      · rintro k A A' ⟨h1, h2, h3, h4⟩ hk
        have hA := (Array.getElem?_eq_some_iff.1 h2).1
        exact ⟨hJ _ _ _ h1 (hk.mono (by omega)), (hk.below _ (by omega) hA).trans h2, (hk.below _ (by omega) (by omega)).trans h3,
          Shut.below hk (fun d hd => by obtain ⟨D, g1, g2⟩ := hds d hd; exact ⟨D, g1, by omega⟩) h4⟩
      · rintro k A A' ⟨x, c, hxc, h1, h2, h3, h4⟩ hk
        have hA := (Array.getElem?_eq_some_iff.1 h2).1
        exact ⟨x, c, hxc, hJx _ _ _ h1 (hk.mono (by omega)), (hk.below _ (by omega) hA).trans h2, (hk.below _ (by omega) (by omega)).trans h3,
          Shut.below hk (fun d hd => by obtain ⟨D, g1, g2⟩ := hds d hd; exact ⟨D, g1, by omega⟩) h4⟩
      · rintro k x A hx ⟨hj, hl, hd, hshA⟩
        have hxl := hL x (List.mem_of_getElem? hx)
        have hltA := (Array.getElem?_eq_some_iff.1 hl).1
        have hy := run_yield (P := P) (args := x.toArray) hl (by rw [hrec]; simpa using hxl)
        rw [hrec] at hy
        refine ⟨fn, _, assign, body, hy, roundIn_of_wpIn (F := Fence.wide) trivial ?_⟩
        clear hy
        have hr := hround k x A hx hj
        have hfold : (ps.zip x.toArray).foldl (fun tmps (t, a) => tmps.setIfInBounds t a) a.tmps = (ps.toList.zip x).foldl (fun t (x : Nat × Value) => t.setIfInBounds x.1 x.2) a.tmps := by
          rw [← Array.foldl_toList]
          simp
        have hs1 : Stands [] (putPs e ps.toList x) { tmps := (ps.zip x.toArray).foldl (fun tmps (t, a) => tmps.setIfInBounds t a) a.tmps, defers := [] } := ⟨by rw [hfold]; exact putPs_fits hs.fits, rfl⟩
        refine ha (some (w.heap.size + 1)) [] _ _ _ hr _ hs1 _ fun x1 e1 a1 Wa hsa ⟨hx1, hok1, hmid⟩ => ?_
        subst hx1
        have hla := hok1.others.same _ _ hl rfl
        have hlta := (Array.getElem?_eq_some_iff.1 hla).1
        have hda := hok1.others.same _ _ hd rfl
        have hsha := hshA.keeps hok1.others.same
        refine ⟨_, run_beginRound hla (by rw [hrec]), ?_⟩
        obtain ⟨W2, hW2⟩ : ∃ W2, Wa.putObj (w.heap.size + 1) (.loop { rec .ready none with state := .busy }) = W2 := ⟨_, rfl⟩
        rw [hW2]
        have hl2 : W2.heap[w.heap.size + 1]? = some (.loop { rec .ready none with state := .busy }) := by rw [← hW2]; exact World.putObj_heap_same hlta
        have hd2 : W2.heap[w.heap.size]? = some (.deferred (some [])) := by rw [← hW2]; exact (World.putObj_heap_other (by omega)).trans hda
        have hsh2 : Shut n0 ds W2 := by rw [← hW2]; exact hsha.put hlD
        have hsz2 : W2.heap.size = Wa.heap.size := by rw [← hW2]; simp
        have hmid2 := hmid W2 (by rw [← hW2]; exact iterKeeps_put hla rfl (by omega)) hsz2
        refine hbd (some (w.heap.size + 1)) [] _ _ _ hmid2 a1 hsa _ fun x2 e2 a2 W3 hsb ⟨hok2, hend⟩ => ?_
        have hl3 := hok2.others.same _ _ hl2 rfl
        have hlt3 := (Array.getElem?_eq_some_iff.1 hl3).1
        have hd3 := hok2.others.same _ _ hd2 rfl
        have hsh3 := hsh2.keeps hok2.others.same
        have fin : ∀ (jump : Option Code), (Instr.endRound (w.heap.size + 1) jump).run P W3 = .ok (.bool jump.isNone) (W3.putObj (w.heap.size + 1) (.loop (rec (if jump.isNone then .ready else .done) jump))) := fun jump => by
          have := run_endRound (P := P) jump hl3
          rw [hrec] at this ⊢
          exact this
        have hh : ∀ o, (W3.putObj (w.heap.size + 1) o).heap[w.heap.size + 1]? = some o ∧ (W3.putObj (w.heap.size + 1) o).heap[w.heap.size]? = some (.deferred (some [])) ∧ Shut n0 ds (W3.putObj (w.heap.size + 1) o) ∧ RoundKeeps W1.heap.size A (W3.putObj (w.heap.size + 1) o) := fun o =>
          ⟨World.putObj_heap_same hlt3, (World.putObj_heap_other (by omega)).trans hd3, hsh3.put hlD,
            (((hok1.keeps.mono (by omega)).trans (by rw [← hW2]; exact roundKeeps_put (by omega))).trans (hok2.keeps.mono (by omega))).trans (roundKeeps_put (by omega))⟩
        cases x2 with
        | normal =>
          obtain ⟨g1, g2, g3, g4⟩ := hh (.loop (rec .ready none))
          exact ⟨_, _, fin none, _, rfl, .inl ⟨rfl, ⟨hJ _ _ _ hend (iterKeeps_put hl3 rfl (by omega)), g1, g2, g3⟩, g4⟩⟩
        | ret =>
          obtain ⟨g1, g2, g3, g4⟩ := hh (.loop (rec .done (some .ret)))
          exact ⟨_, _, fin (some .ret), _, rfl, .inr ⟨rfl, ⟨.ret, _, rfl, hJx _ _ _ hend.2 (iterKeeps_put hl3 rfl (by omega)), g1, g2, g3⟩, g4⟩⟩
        | exit id =>
          obtain ⟨g1, g2, g3, g4⟩ := hh (.loop (rec .done (some (.exit id))))
          exact ⟨_, _, fin (some (.exit id)), _, rfl, .inr ⟨rfl, ⟨.exit id, _, rfl, hJx _ _ _ hend.2 (iterKeeps_put hl3 rfl (by omega)), g1, g2, g3⟩, g4⟩⟩
        | goto t =>
          obtain ⟨g1, g2, g3, g4⟩ := hh (.loop (rec .done (some (.goto t))))
          exact ⟨_, _, fin (some (.goto t)), _, rfl, .inr ⟨rfl, ⟨.goto t, _, rfl, hJx _ _ _ hend.2 (iterKeeps_put hl3 rfl (by omega)), g1, g2, g3⟩, g4⟩⟩
        | panic ch => exact absurd hend.1 (by simp [exitCode])
        | outgrown => exact absurd hend.1 (by simp [exitCode])
  · exact h.elim

/-! ### Functions that hold ranges -/

/-- a function's end: the marks are shut -/
def endKD (C : Tell) (rs : List ResultVar) (n0 : Nat) (K : Value → World → Prop) : Kont := fun x e w =>
  ∀ w', IterKeeps n0 w w' → w'.heap.size = w.heap.size → endK C rs K x e w'

theorem leaves_shut {fn : Func} {tmps : Array Value} {R : Ending → World → Prop} {n0 : Nat} : ∀ {ds : List Deferred} {w : World}, Shut n0 ds w →
    (∀ w', IterKeeps n0 w w' → w'.heap.size = w.heap.size → ∃ v, (results fn tmps).run P w' = .ok v w' ∧ R (.returned v) w') → LeavesInM Fence.wide 0 P fn tmps R ds .returning w
  | [], w, _, h => h w (IterKeeps.refl _ _) rfl
  | d :: ds, w, ⟨⟨D, h1, h2, h3, h4⟩, hr⟩, h => by
    subst h1
    refine ⟨by simp, .inl ⟨D, w.putObj D (.deferred none), rfl, run_takeDeferred h3, ?_⟩⟩
    refine leaves_shut (n0 := n0) (hr.put fun d hd => ?_) fun w' hk hsz => h w' ((iterKeeps_put h3 rfl h2).trans hk) (by rw [hsz]; simp)
    obtain ⟨D', g1, _⟩ := hr.mem d hd
    exact ⟨D', g1, fun e => h4 d hd (by rw [g1, e])⟩

theorem func_soundD (hW : World2 P C) {f : FuncId} {fn : Func} {c : Code} {E : Env → World → Kont → Prop} (hf : P.funcs[f]? = some fn) (hb : fn.body = some c) (ho : SoundD P c E) {args : Array Value} {w : World} {K : Value → World → Prop}
    (h : E (env0 args.toList fn.ntmps) w (endKD C fn.results.toList w.heap.size K)) : CallsV P f args w K := by
  refine callsIn_wide.1 (callsIn_of_wp_marks (F := Fence.wide) (n := 0) hf hb trivial (ho w.heap.size [] _ _ _ h (Nat.le_refl _) _ (stands0 args fn.ntmps) trivial _ fun x ds e a w1 hs hsh _ hk => ?_))
  have key : (∀ w', IterKeeps w.heap.size w1 w' → w'.heap.size = w1.heap.size → resultsK C fn.results.toList e w' [] fun vs => K (oneOf vs) w') →
      LeavesInM Fence.wide 0 P fn a.tmps (fun e w' => ∃ v, e = .returned v ∧ K v w') a.defers .returning w1 := fun hk => by
    rw [hs.defers]
    refine leaves_shut hsh fun w' hik hsz => ?_
    obtain ⟨vs, h1, h2⟩ := results_sound (fn := fn) (K := fun v => K v w') hW.ok hs.fits (hk w' hik hsz)
    exact ⟨_, h1, _, rfl, h2⟩
  cases x with
  | normal => exact key hk
  | ret => exact key hk
  | exit id => exact (hk w1 (IterKeeps.refl _ _) rfl).elim
  | goto id => exact (hk w1 (IterKeeps.refl _ _) rfl).elim
  | panic id => exact (hk w1 (IterKeeps.refl _ _) rfl).elim
  | outgrown => exact (hk w1 (IterKeeps.refl _ _) rfl).elim

/-- code that holds ranges -/
def evCodeD (C : Tell) (P : Program) (O : Orac) : Code → Nat → Env → World → Kont → Prop
  | .skip, _, e, w, k => k .normal e w
  | .label _, _, e, w, k => k .normal e w
  | .region _ ops draw, _, e, w, k =>
    if draw = true then evDraw C P ops.toList e w fun e w' => KeepsOthers w w' ∧ k .normal e w' else evOps C P ops.toList ops.toList e w fun e w' => KeepsOthers w w' ∧ k .normal e w'
  | .seq x y, p, e, w, k => evCodeD C P O x (2 * p) e w (thenK k fun e w => evCodeD C P O y (2 * p + 1) e w k)
  | .cond c x y, p, e, w, k =>
    match eval e c with
    | some (.bool b) => if b = true then evCodeD C P O x (2 * p) e w k else evCodeD C P O y (2 * p + 1) e w k
    | _ => False
  | .block id c, p, e, w, k => evCodeD C P O c (2 * p) e w (blockK id k)
  | .loop _, p, e, w, k => O.loop p e w k
  | .rangeFunc .., p, e, w, k => O.loop p e w k
  | .exit id, _, e, w, k => k (.exit id) e w
  | .goto l, _, e, w, k => k (.goto l) e w
  | .ret, _, e, w, k => k .ret e w
  | _, _, _, _, _ => False

def OwedD (P : Program) (O : Orac) : Code → Nat → Prop
  | .seq x y, p => OwedD P O x (2 * p) ∧ OwedD P O y (2 * p + 1)
  | .cond _ x y, p => OwedD P O x (2 * p) ∧ OwedD P O y (2 * p + 1)
  | .block _ c, p => OwedD P O c (2 * p)
  | .loop c, p => SoundD P (.loop c) (O.loop p)
  | .rangeFunc f ps a b, p => SoundD P (.rangeFunc f ps a b) (O.loop p)
  | _, _ => True

theorem evCodeD_sound (hW : World2 P C) (O : Orac) : ∀ (c : Code) (p : Nat), OwedD P O c p → SoundD P c (evCodeD C P O c p) := by
  intro c
  induction c with
  | skip => intro p _ n0 ds e w k h hn a hs hsh Q hQ; exact wpIn_skip (hQ _ _ _ _ _ hs hsh hn h)
  | label l => intro p _ n0 ds e w k h hn a hs hsh Q hQ; exact wpIn_label (hQ _ _ _ _ _ hs hsh hn h)
  | ret => intro p _ n0 ds e w k h hn a hs hsh Q hQ; exact wpIn_ret (hQ _ _ _ _ _ hs hsh hn h)
  | exit id => intro p _ n0 ds e w k h hn a hs hsh Q hQ; exact wpIn_exit (hQ _ _ _ _ _ hs hsh hn h)
  | goto l => intro p _ n0 ds e w k h hn a hs hsh Q hQ; exact wpIn_goto (hQ _ _ _ _ _ hs hsh hn h)
  | refuse why => intro p _ n0 ds e w k h; exact h.elim
  | scope c _ => intro p _ n0 ds e w k h; exact h.elim
  | region id ops draw =>
    intro p ho n0 ds e w k h hn a hs hsh Q hQ
    simp only [evCodeD] at h
    split at h
    · rename_i hd
      have hd' : draw = true := hd
      subst hd'
      exact draw_sound hW hs h fun e a w' hs ⟨hk, h⟩ => hQ _ _ _ _ _ hs (hsh.keeps hk.same) (Nat.le_trans hn hk.size) h
    · rename_i hd
      have hd' : draw = false := by simpa using hd
      subst hd'
      refine wpIn_region_list ?_
      have := evOps_sound hW (l := none) (Q := Q) (ops := ops.toList) hs h (fun e a w' hs ⟨hk, h⟩ => hQ _ _ _ _ _ hs (hsh.keeps hk.same) (Nat.le_trans hn hk.size) h)
      simpa using this
  | seq x y ihx ihy =>
    intro p ho n0 ds e w k h hn a hs hsh Q hQ
    simp only [OwedD] at ho
    simp only [evCodeD] at h
    refine wpIn_seq (ihx (2 * p) ho.1 _ _ _ _ _ h hn a hs hsh _ fun x1 ds1 e1 a1 w1 hs1 hsh1 hn1 h1 => ?_)
    cases x1 with
    | normal => exact ihy (2 * p + 1) ho.2 _ _ _ _ _ h1 hn1 a1 hs1 hsh1 Q hQ
    | _ => exact hQ _ _ _ _ _ hs1 hsh1 hn1 h1
  | cond c x y ihx ihy =>
    intro p ho n0 ds e w k h hn a hs hsh Q hQ
    simp only [OwedD] at ho
    simp only [evCodeD] at h
    split at h
    · rename_i b hb
      have hc := eval_sound hs.fits hb
      split at h
      · rename_i hbt
        subst hbt
        exact wpIn_cond_true hc (ihx (2 * p) ho.1 _ _ _ _ _ h hn a hs hsh Q hQ)
      · rename_i hbt
        have hbf : b = false := by simpa using hbt
        subst hbf
        exact wpIn_cond_false hc (ihy (2 * p + 1) ho.2 _ _ _ _ _ h hn a hs hsh Q hQ)
    · exact h.elim
  | block id c ih =>
    intro p ho n0 ds e w k h hn a hs hsh Q hQ
    simp only [OwedD] at ho
    simp only [evCodeD] at h
    refine wpIn_block (ih (2 * p) ho _ _ _ _ _ h hn a hs hsh _ fun x1 ds1 e1 a1 w1 hs1 hsh1 hn1 h1 => ?_)
    cases x1 with
    | exit i =>
      simp only [blockK] at h1
      simp only [Exit.inBlock]
      split at h1
      · rename_i hi; rw [if_pos hi]; exact hQ _ _ _ _ _ hs1 hsh1 hn1 h1
      · rename_i hi; rw [if_neg hi]; exact hQ _ _ _ _ _ hs1 hsh1 hn1 h1
    | _ => exact hQ _ _ _ _ _ hs1 hsh1 hn1 h1
  | loop c ih => intro p ho n0 ds e w k h; exact ho n0 ds e w k h
  | rangeFunc f ps c1 c2 _ _ => intro p ho n0 ds e w k h; exact ho n0 ds e w k h

theorem loop_soundD {body : Code} {E : Env → World → Kont → Prop} (hb : SoundD P body E) (N : Nat) (ins : List Nat) (spec : List (Exit × List Nat))
    (B : List Value → World → (List Value → World → Prop) → (Nat × List Value → World → Prop) → Prop)
    (hB : ∀ vs w next out, B vs w next out → E (envOf N ins vs) w (bodyK N ins spec next out))
    (pat : Nat × List Value → (Nat × List Value → Prop) → Prop) (hpat : ∀ y k, pat y k → k y) :
    SoundD P (.loop body) (fun e w k => takeK N ins e fun vs => LoopP B vs w fun y w => pat y fun y => outK N spec k y w) := by
  intro n0 ds e w k h hn a hs hsh Q hQ
  obtain ⟨vs, hle, n, h0⟩ := takeK_spec h
  refine wpIn_loop_rounds n ?_
  replace hs := Stands.le hle hs
  clear h hle e
  have h := h0
  clear h0
  induction n generalizing vs w a ds with
  | zero => exact h.elim
  | succ n ih =>
    refine hb _ _ _ _ _ (hB _ _ _ _ h) hn a hs hsh _ fun x ds1 e1 a1 w1 hs1 hsh1 hn1 h1 => ?_
    have other : x ≠ .normal → (wayOut spec x 0 fun i is => takeK N is e1 fun vs => pat (i, vs) fun y => outK N spec k y w1) → Q x a1 w1 := fun _ h1 => by
      obtain ⟨j, is, hj, h2⟩ := wayOut_spec h1
      obtain ⟨us, hle1, h3⟩ := takeK_spec h2
      have h4 := hpat _ _ h3
      simp only [outK, Nat.zero_add, hj] at h4
      exact hQ _ _ _ _ _ (Stands.le hle1 hs1) hsh1 hn1 h4
    cases x with
    | normal =>
      obtain ⟨us, hle1, h2⟩ := takeK_spec h1
      exact ih ds1 w1 hn1 a1 hsh1 us (Stands.le hle1 hs1) h2
    | _ => exact other (by simp) h1

def rangeG : Code → Operand
  | .rangeFunc g _ _ _ => g
  | _ => .const undef
def rangePs : Code → Array Tmp
  | .rangeFunc _ ps _ _ => ps
  | _ => #[]
def rangeA : Code → Code
  | .rangeFunc _ _ a _ => a
  | c => c
def rangeB : Code → Code
  | .rangeFunc _ _ _ b => b
  | c => c

/-- behind the assignments of a round -/
def assignK (n : Nat) (W : World) (kb : Env → World → Prop) : Kont := fun x e W1 =>
  match x with
  | .normal => RoundOk n W W1 ∧ ∀ W2, IterKeeps n W1 W2 → W2.heap.size = W1.heap.size → kb e W2
  | _ => False

theorem RangeK.mono {gv : Value} {np : Nat} {w : World} {r r' : List Value → World → (Exit → World → Prop) → Prop} {d d' : World → Prop} {o o' : Exit → World → Prop}
    (hr : ∀ x W out, r x W out → r' x W out) (hd : ∀ W, d W → d' W) (ho : ∀ x W, o x W → o' x W) : RangeK C P gv np w r d o → RangeK C P gv np w r' d' o' := by
  rintro ⟨gf, lb, L, I, J, Jx, h1, h2, h3, h4, h5, h6, h7, h8, h9, h10, h11⟩
  exact ⟨gf, lb, L, I, J, Jx, h1, h2, h3, h4, h5, h6, h7, h8, fun k x W hx hj => hr _ _ _ (h9 k x W hx hj), fun W hj => hd _ (h10 W hj), fun e W hj => ho _ _ (h11 e W hj)⟩

/-- a range, told apart -/
theorem range_piece (hW : World2 P C) {g : Operand} {ps : Array Tmp} {assign body : Code} {Ea Eb : Env → World → Kont → Prop} (ha : Sound P assign Ea) (hbd : Sound P body Eb) (N : Nat) (ins : List Nat) (np : Nat) (r : Bool) (hnp : ps.toList.length = np)
    (B : List Value → List Value → Nat → World → (Exit → World → Prop) → Prop)
    (hB : ∀ vs x n W out, B vs x n W out → Ea (putPs (envOf N ins vs) ps.toList x) W (assignK n W fun e1 W2 => Eb e1 W2 fun x2 _ W3 => RoundOk n W2 W3 ∧ out x2 W3)) :
    SoundD P (.rangeFunc g ps assign body) (fun e w k => takeK N ins e fun vs => match eval (envOf N ins vs) g with
      | some gv => RangeK C P gv np w (fun x W out => B vs x w.heap.size W out) (fun W => k .normal (envOf N ins vs) W) (fun x W => cond r (x = .ret ∧ k .ret (envOf N ins vs) W) False)
      | none => False) := by
  intro n0 ds e w k h hn a hs hsh Q hQ
  obtain ⟨vs, hle, h⟩ := takeK_spec h
  have hEa : ∀ x n W out, B vs x n W out → Ea (putPs (envOf N ins vs) ps.toList x) W fun x1 e1 W1 => x1 = .normal ∧ RoundOk n W W1 ∧ ∀ W2, IterKeeps n W1 W2 → W2.heap.size = W1.heap.size → Eb e1 W2 fun x2 _ W3 => RoundOk n W2 W3 ∧ out x2 W3 := fun x n W out hb => by
    have h1 := hB vs x n W out hb
    have : (assignK n W fun e1 W2 => Eb e1 W2 fun x2 _ W3 => RoundOk n W2 W3 ∧ out x2 W3) = fun x1 e1 W1 => x1 = .normal ∧ RoundOk n W W1 ∧ ∀ W2, IterKeeps n W1 W2 → W2.heap.size = W1.heap.size → Eb e1 W2 fun x2 _ W3 => RoundOk n W2 W3 ∧ out x2 W3 := by
      funext x1 e1 W1
      cases x1 <;> simp [assignK]
    rw [← this]
    exact h1
  subst hnp
  refine range_soundD hW ha hbd n0 ds (envOf N ins vs) w k ?_ hn a (Stands.le hle hs) hsh Q hQ
  unfold rangeE
  split at h
  · rename_i gv hg
    exact h.mono (fun x W out hb => hEa x _ W out hb) (fun _ h => h) (fun x W hh => by cases r with | false => exact hh.elim | true => obtain ⟨hx, h⟩ := hh; subst hx; exact h)
  · exact h.elim

def owesD (P : Program) (O : Orac) : Code → Nat → List Prop
  | .seq x y, p => owesD P O x (2 * p) ++ owesD P O y (2 * p + 1)
  | .cond _ x y, p => owesD P O x (2 * p) ++ owesD P O y (2 * p + 1)
  | .block _ c, p => owesD P O c (2 * p)
  | .loop c, p => [SoundD P (.loop c) (O.loop p)]
  | .rangeFunc f ps a b, p => [SoundD P (.rangeFunc f ps a b) (O.loop p)]
  | _, _ => []

theorem owedD_of {P : Program} {O : Orac} : ∀ {c : Code} {p : Nat}, allP (owesD P O c p) → OwedD P O c p := by
  suffices key : ∀ {c : Code} {p : Nat}, (∀ q ∈ owesD P O c p, q) → OwedD P O c p from fun {c p} h => key (allP_mem h)
  intro c
  induction c with
  | seq x y ihx ihy =>
    intro p h
    simp only [owesD] at h
    exact ⟨ihx fun q hq => h q (List.mem_append_left _ hq), ihy fun q hq => h q (List.mem_append_right _ hq)⟩
  | cond c x y ihx ihy =>
    intro p h
    simp only [owesD] at h
    exact ⟨ihx fun q hq => h q (List.mem_append_left _ hq), ihy fun q hq => h q (List.mem_append_right _ hq)⟩
  | block id c ih => intro p h; exact ih h
  | loop c _ => intro p h; exact h _ (List.mem_singleton.2 rfl)
  | rangeFunc f ps a b _ _ => intro p h; exact h _ (List.mem_singleton.2 rfl)
  | _ => intro p _; trivial

end Go.Eng

/- The engine: all of it. -/

/- What the engine is told of the program: its types, its functions. -/
namespace Go.M
open Go Go.Eng Go.RowKit

noncomputable abbrev P : Program := Go.Proofs.Tryz.prog
def ti0 : TI := ⟨.tuple [], 1, 0, []⟩
def ti2 : TI := ⟨.int .i64, 1, 8, [.int .i64]⟩
def ti3 : TI := ⟨.int .i64, 1, 8, [.int .i64]⟩
def ti4 : TI := ⟨.bool, 1, 1, [.bool]⟩
def ti5 : TI := ⟨.int .u8, 1, 1, [.int .u8]⟩
def ti9 : TI := ⟨.str, 1, 16, [.str]⟩
def ti21 : TI := ⟨.int .i32, 1, 4, [.int .i32]⟩
def ti22 : TI := ⟨.int .i64, 1, 8, [.int .i64]⟩
def ti24 : TI := ⟨.struct [(0, 3), (1, 3), (2, 2), (3, 2), (4, 2), (5, 2), (6, 2), (7, 2), (8, 22), (9, 22), (10, 22), (11, 22), (12, 22), (13, 2), (14, 3), (15, 3)], 16, 128, [.int .i64, .int .i64, .int .i64, .int .i64, .int .i64, .int .i64, .int .i64, .int .i64, .int .i64, .int .i64, .int .i64, .int .i64, .int .i64, .int .i64, .int .i64, .int .i64]⟩
def ti25 : TI := ⟨.slice 34, 1, 24, [.slice]⟩
def ti27 : TI := ⟨.ptr, 1, 8, [.ptr]⟩
def ti28 : TI := ⟨.int .i64, 1, 8, [.int .i64]⟩
def ti29 : TI := ⟨.tuple [27, 28], 1, 0, []⟩
def ti32 : TI := ⟨.struct [(0, 5), (1, 3), (2, 3), (3, 2)], 4, 32, [.int .u8, .int .i64, .int .i64, .int .i64]⟩
def ti34 : TI := ⟨.struct [(0, 3), (1, 2), (2, 32)], 6, 48, [.int .i64, .int .i64, .int .u8, .int .i64, .int .i64, .int .i64]⟩
def ti38 : TI := ⟨.slice 62, 1, 24, [.slice]⟩
def ti40 : TI := ⟨.int .u64, 1, 8, [.int .u64]⟩
def ti42 : TI := ⟨.struct [(0, 5), (1, 40), (2, 3), (3, 3), (4, 2)], 5, 40, [.int .u8, .int .u64, .int .i64, .int .i64, .int .i64]⟩
def ti43 : TI := ⟨.tuple [42, 4], 1, 0, []⟩
def ti47 : TI := ⟨.slice 3, 1, 24, [.slice]⟩
def ti50 : TI := ⟨.slice 32, 1, 24, [.slice]⟩
def ti51 : TI := ⟨.slice 2, 1, 24, [.slice]⟩
def ti52 : TI := ⟨.ptr, 1, 8, [.ptr]⟩
def ti53 : TI := ⟨.tuple [52, 28], 1, 0, []⟩
def ti58 : TI := ⟨.slice 64, 1, 24, [.slice]⟩
def ti60 : TI := ⟨.map, 1, 8, [.map]⟩
def ti62 : TI := ⟨.struct [(0, 3), (1, 2), (2, 32), (6, 42)], 11, 88, [.int .i64, .int .i64, .int .u8, .int .i64, .int .i64, .int .i64, .int .u8, .int .u64, .int .i64, .int .i64, .int .i64]⟩
def ti64 : TI := ⟨.struct [(0, 3), (1, 32), (5, 3), (6, 3), (7, 2), (8, 2), (9, 42), (14, 3)], 15, 120, [.int .i64, .int .u8, .int .i64, .int .i64, .int .i64, .int .i64, .int .i64, .int .i64, .int .i64, .int .u8, .int .u64, .int .i64, .int .i64, .int .i64, .int .i64]⟩
def ti67 : TI := ⟨.slice 130, 1, 24, [.slice]⟩
def ti69 : TI := ⟨.ptr, 1, 8, [.ptr]⟩
def ti74 : TI := ⟨.slice 132, 1, 24, [.slice]⟩
def ti76 : TI := ⟨.slice 94, 1, 24, [.slice]⟩
def ti78 : TI := ⟨.struct [(0, 76), (1, 38), (2, 47)], 3, 72, [.slice, .slice, .slice]⟩
def ti79 : TI := ⟨.tuple [78, 28], 1, 0, []⟩
def ti81 : TI := ⟨.slice 203, 1, 24, [.slice]⟩
def ti82 : TI := ⟨.ptr, 1, 8, [.ptr]⟩
def ti83 : TI := ⟨.tuple [81, 82, 47], 1, 0, []⟩
def ti86 : TI := ⟨.slice 201, 1, 24, [.slice]⟩
def ti90 : TI := ⟨.int .u16, 1, 2, [.int .u16]⟩
def ti94 : TI := ⟨.struct [(0, 3), (1, 32), (5, 3), (6, 3), (7, 2), (8, 2), (9, 3), (10, 42)], 15, 120, [.int .i64, .int .u8, .int .i64, .int .i64, .int .i64, .int .i64, .int .i64, .int .i64, .int .i64, .int .i64, .int .u8, .int .u64, .int .i64, .int .i64, .int .i64]⟩
def ti99 : TI := ⟨.struct [(0, 5), (1, 3), (2, 3), (3, 2)], 4, 32, [.int .u8, .int .i64, .int .i64, .int .i64]⟩
def ti100 : TI := ⟨.struct [(0, 5), (1, 40), (2, 3), (3, 3), (4, 2)], 5, 40, [.int .u8, .int .u64, .int .i64, .int .i64, .int .i64]⟩
def ti101 : TI := ⟨.tuple [100, 4], 1, 0, []⟩
def ti103 : TI := ⟨.ptr, 1, 8, [.ptr]⟩
def ti104 : TI := ⟨.ptr, 1, 8, [.ptr]⟩
def ti105 : TI := ⟨.slice 114, 1, 24, [.slice]⟩
def ti106 : TI := ⟨.slice 124, 1, 24, [.slice]⟩
def ti108 : TI := ⟨.struct [(0, 103), (1, 104), (2, 3), (3, 105), (4, 2), (5, 106)], 6, 80, [.ptr, .ptr, .int .i64, .slice, .int .i64, .slice]⟩
def ti109 : TI := ⟨.slice 40, 1, 24, [.slice]⟩
def ti111 : TI := ⟨.struct [(0, 40), (1, 40), (2, 109), (3, 109)], 4, 64, [.int .u64, .int .u64, .slice, .slice]⟩
def ti112 : TI := ⟨.ptr, 1, 8, [.ptr]⟩
def ti114 : TI := ⟨.struct [(0, 3), (1, 99), (5, 4), (6, 100), (11, 112), (12, 3), (13, 3), (14, 100)], 19, 152, [.int .i64, .int .u8, .int .i64, .int .i64, .int .i64, .bool, .int .u8, .int .u64, .int .i64, .int .i64, .int .i64, .ptr, .int .i64, .int .i64, .int .u8, .int .u64, .int .i64, .int .i64, .int .i64]⟩
def ti115 : TI := ⟨.slice 126, 1, 24, [.slice]⟩
def ti116 : TI := ⟨.slice 283, 1, 24, [.slice]⟩
def ti117 : TI := ⟨.slice 284, 1, 24, [.slice]⟩
def ti119 : TI := ⟨.struct [(0, 2), (1, 2), (2, 2)], 3, 24, [.int .i64, .int .i64, .int .i64]⟩
def ti120 : TI := ⟨.slice 355, 1, 24, [.slice]⟩
def ti122 : TI := ⟨.struct [(0, 51), (1, 115), (2, 116), (3, 117), (4, 119), (7, 120), (8, 3), (9, 2), (10, 2), (11, 40)], 12, 176, [.slice, .slice, .slice, .slice, .int .i64, .int .i64, .int .i64, .slice, .int .i64, .int .i64, .int .i64, .int .u64]⟩
def ti124 : TI := ⟨.struct [(0, 3), (1, 2), (2, 99), (6, 100)], 11, 88, [.int .i64, .int .i64, .int .u8, .int .i64, .int .i64, .int .i64, .int .u8, .int .u64, .int .i64, .int .i64, .int .i64]⟩
def ti126 : TI := ⟨.slice 129, 1, 24, [.slice]⟩
def ti129 : TI := ⟨.struct [(0, 40), (1, 3), (2, 3), (3, 2), (4, 2)], 5, 40, [.int .u64, .int .i64, .int .i64, .int .i64, .int .i64]⟩
def ti130 : TI := ⟨.struct [(0, 40), (1, 3), (2, 3), (3, 2), (4, 2)], 5, 40, [.int .u64, .int .i64, .int .i64, .int .i64, .int .i64]⟩
def ti132 : TI := ⟨.struct [(0, 5), (1, 3), (2, 2), (3, 32)], 7, 56, [.int .u8, .int .i64, .int .i64, .int .u8, .int .i64, .int .i64, .int .i64]⟩
def ti136 : TI := ⟨.tuple [74, 78, 28], 1, 0, []⟩
def ti141 : TI := ⟨.ptr, 1, 8, [.ptr]⟩
def ti142 : TI := ⟨.tuple [141, 28], 1, 0, []⟩
def ti144 : TI := ⟨.ptr, 1, 8, [.ptr]⟩
def ti146 : TI := ⟨.slice 158, 1, 24, [.slice]⟩
def ti148 : TI := ⟨.struct [], 0, 0, []⟩
def ti149 : TI := ⟨.struct [], 0, 0, []⟩
def ti151 : TI := ⟨.struct [(0, 148), (0, 149), (0, 2)], 1, 8, [.int .i64]⟩
def ti153 : TI := ⟨.struct [(0, 52), (1, 141), (2, 144), (3, 146), (4, 151), (5, 38)], 6, 80, [.ptr, .ptr, .ptr, .slice, .int .i64, .slice]⟩
def ti154 : TI := ⟨.ptr, 1, 8, [.ptr]⟩
def ti156 : TI := ⟨.ptr, 1, 8, [.ptr]⟩
def ti158 : TI := ⟨.struct [(0, 3), (1, 32), (5, 154), (6, 156), (7, 3), (8, 3), (9, 42)], 14, 112, [.int .i64, .int .u8, .int .i64, .int .i64, .int .i64, .ptr, .ptr, .int .i64, .int .i64, .int .u8, .int .u64, .int .i64, .int .i64, .int .i64]⟩
def ti161 : TI := ⟨.ptr, 1, 8, [.ptr]⟩
def ti167 : TI := ⟨.func, 1, 8, [.func]⟩
def ti169 : TI := ⟨.ptr, 1, 8, [.ptr]⟩
def ti170 : TI := ⟨.tuple [169, 28], 1, 0, []⟩
def ti172 : TI := ⟨.slice 265, 1, 24, [.slice]⟩
def ti174 : TI := ⟨.struct [(0, 22), (1, 22), (2, 2)], 3, 24, [.int .i64, .int .i64, .int .i64]⟩
def ti176 : TI := ⟨.struct [(0, 24), (16, 169), (17, 172), (18, 174), (21, 69), (22, 5), (23, 2), (24, 2), (25, 40)], 26, 224, [.int .i64, .int .i64, .int .i64, .int .i64, .int .i64, .int .i64, .int .i64, .int .i64, .int .i64, .int .i64, .int .i64, .int .i64, .int .i64, .int .i64, .int .i64, .int .i64, .ptr, .slice, .int .i64, .int .i64, .int .i64, .ptr, .int .u8, .int .i64, .int .i64, .int .u64]⟩
def ti177 : TI := ⟨.func, 1, 8, [.func]⟩
def ti179 : TI := ⟨.array 4 177, 4, 32, [.func, .func, .func, .func]⟩
def ti181 : TI := ⟨.tuple [3, 4], 1, 0, []⟩
def ti182 : TI := ⟨.func, 1, 8, [.func]⟩
def ti183 : TI := ⟨.func, 1, 8, [.func]⟩
def ti185 : TI := ⟨.int .u64, 1, 8, [.int .u64]⟩
def ti186 : TI := ⟨.slice 330, 1, 24, [.slice]⟩
def ti188 : TI := ⟨.struct [(0, 186)], 1, 24, [.slice]⟩
def ti191 : TI := ⟨.struct [(0, 2), (1, 2), (2, 2)], 3, 24, [.int .i64, .int .i64, .int .i64]⟩
def ti194 : TI := ⟨.struct [(0, 22), (1, 22), (2, 22), (3, 22), (4, 22), (5, 2), (6, 2)], 7, 56, [.int .i64, .int .i64, .int .i64, .int .i64, .int .i64, .int .i64, .int .i64]⟩
def ti196 : TI := ⟨.ptr, 1, 8, [.ptr]⟩
def ti198 : TI := ⟨.struct [(0, 27), (1, 78), (4, 60)], 5, 88, [.ptr, .slice, .slice, .slice, .map]⟩
def ti201 : TI := ⟨.struct [(0, 5), (1, 3), (2, 2), (3, 99)], 7, 56, [.int .u8, .int .i64, .int .i64, .int .u8, .int .i64, .int .i64, .int .i64]⟩
def ti203 : TI := ⟨.struct [(0, 3), (1, 99), (5, 3), (6, 3), (7, 2), (8, 2), (9, 3), (10, 100)], 15, 120, [.int .i64, .int .u8, .int .i64, .int .i64, .int .i64, .int .i64, .int .i64, .int .i64, .int .i64, .int .i64, .int .u8, .int .u64, .int .i64, .int .i64, .int .i64]⟩
def ti206 : TI := ⟨.ptr, 1, 8, [.ptr]⟩
def ti210 : TI := ⟨.struct [(0, 3), (1, 3), (2, 40), (3, 40), (4, 40), (5, 4)], 6, 48, [.int .i64, .int .i64, .int .u64, .int .u64, .int .u64, .bool]⟩
def ti213 : TI := ⟨.func, 1, 8, [.func]⟩
def ti214 : TI := ⟨.slice 220, 1, 24, [.slice]⟩
def ti216 : TI := ⟨.struct [(0, 148), (0, 149), (0, 40)], 1, 8, [.int .u64]⟩
def ti218 : TI := ⟨.struct [(0, 216), (1, 216), (2, 214)], 3, 40, [.int .u64, .int .u64, .slice]⟩
def ti220 : TI := ⟨.struct [(0, 216), (1, 40)], 2, 16, [.int .u64, .int .u64]⟩
def ti223 : TI := ⟨.struct [(0, 151)], 1, 8, [.int .i64]⟩
def ti225 : TI := ⟨.struct [(0, 148), (0, 21)], 1, 4, [.int .i32]⟩
def ti227 : TI := ⟨.struct [(0, 225), (1, 32), (5, 42)], 10, 80, [.int .i32, .int .u8, .int .i64, .int .i64, .int .i64, .int .u8, .int .u64, .int .i64, .int .i64, .int .i64]⟩
def ti228 : TI := ⟨.ptr, 1, 8, [.ptr]⟩
def ti230 : TI := ⟨.ptr, 1, 8, [.ptr]⟩
def ti239 : TI := ⟨.tuple [32, 4], 1, 0, []⟩
def ti241 : TI := ⟨.ptr, 1, 8, [.ptr]⟩
def ti242 : TI := ⟨.tuple [241, 28], 1, 0, []⟩
def ti244 : TI := ⟨.ptr, 1, 8, [.ptr]⟩
def ti245 : TI := ⟨.tuple [244, 28], 1, 0, []⟩
def ti247 : TI := ⟨.ptr, 1, 8, [.ptr]⟩
def ti248 : TI := ⟨.tuple [247, 28], 1, 0, []⟩
def ti250 : TI := ⟨.slice 185, 1, 24, [.slice]⟩
def ti252 : TI := ⟨.struct [(0, 244), (1, 241), (2, 247), (3, 250), (4, 3)], 5, 56, [.ptr, .ptr, .ptr, .slice, .int .i64]⟩
def ti254 : TI := ⟨.tuple [185, 4], 1, 0, []⟩
def ti257 : TI := ⟨.tuple [185, 28], 1, 0, []⟩
def ti261 : TI := ⟨.struct [(0, 4), (1, 2), (2, 4), (3, 2), (4, 40), (5, 40)], 6, 48, [.bool, .int .i64, .bool, .int .i64, .int .u64, .int .u64]⟩
def ti263 : TI := ⟨.struct [(0, 4), (1, 2), (2, 40)], 3, 24, [.bool, .int .i64, .int .u64]⟩
def ti265 : TI := ⟨.struct [(0, 261), (6, 263)], 9, 72, [.bool, .int .i64, .bool, .int .i64, .int .u64, .int .u64, .bool, .int .i64, .int .u64]⟩
def ti267 : TI := ⟨.tuple [130, 28], 1, 0, []⟩
def ti269 : TI := ⟨.ptr, 1, 8, [.ptr]⟩
def ti278 : TI := ⟨.func, 1, 8, [.func]⟩
def ti279 : TI := ⟨.func, 1, 8, [.func]⟩
def ti280 : TI := ⟨.func, 1, 8, [.func]⟩
def ti282 : TI := ⟨.ptr, 1, 8, [.ptr]⟩
def ti283 : TI := ⟨.struct [(0, 4), (1, 2), (2, 4), (3, 2), (4, 40), (5, 40)], 6, 48, [.bool, .int .i64, .bool, .int .i64, .int .u64, .int .u64]⟩
def ti284 : TI := ⟨.struct [(0, 4), (1, 2), (2, 40)], 3, 24, [.bool, .int .i64, .int .u64]⟩
def ti286 : TI := ⟨.struct [(0, 40), (1, 40)], 2, 16, [.int .u64, .int .u64]⟩
def ti287 : TI := ⟨.tuple [286, 4], 1, 0, []⟩
def ti300 : TI := ⟨.ptr, 1, 8, [.ptr]⟩
def ti302 : TI := ⟨.ptr, 1, 8, [.ptr]⟩
def ti303 : TI := ⟨.ptr, 1, 8, [.ptr]⟩
def ti305 : TI := ⟨.ptr, 1, 8, [.ptr]⟩
def ti308 : TI := ⟨.struct [(0, 141), (1, 4), (2, 3), (3, 40), (4, 40), (5, 40), (6, 4)], 7, 56, [.ptr, .bool, .int .i64, .int .u64, .int .u64, .int .u64, .bool]⟩
def ti311 : TI := ⟨.slice 316, 1, 24, [.slice]⟩
def ti312 : TI := ⟨.slice 318, 1, 24, [.slice]⟩
def ti314 : TI := ⟨.struct [(0, 311), (1, 312)], 2, 48, [.slice, .slice]⟩
def ti316 : TI := ⟨.struct [(0, 3), (1, 3), (2, 3)], 3, 24, [.int .i64, .int .i64, .int .i64]⟩
def ti318 : TI := ⟨.struct [(0, 3), (1, 3), (2, 3)], 3, 24, [.int .i64, .int .i64, .int .i64]⟩
def ti319 : TI := ⟨.slice 351, 1, 24, [.slice]⟩
def ti321 : TI := ⟨.struct [(0, 319), (1, 3), (2, 3), (3, 3)], 4, 48, [.slice, .int .i64, .int .i64, .int .i64]⟩
def ti322 : TI := ⟨.slice 377, 1, 24, [.slice]⟩
def ti324 : TI := ⟨.struct [(0, 322), (1, 47)], 2, 48, [.slice, .slice]⟩
def ti330 : TI := ⟨.struct [(0, 40), (1, 3), (2, 3), (3, 5), (4, 2), (5, 2)], 6, 48, [.int .u64, .int .i64, .int .i64, .int .u8, .int .i64, .int .i64]⟩
def ti335 : TI := ⟨.struct [(0, 2), (1, 2)], 2, 16, [.int .i64, .int .i64]⟩
def ti337 : TI := ⟨.tuple [185, 130], 1, 0, []⟩
def ti339 : TI := ⟨.tuple [261, 3], 1, 0, []⟩
def ti347 : TI := ⟨.ptr, 1, 8, [.ptr]⟩
def ti349 : TI := ⟨.int .u32, 1, 4, [.int .u32]⟩
def ti351 : TI := ⟨.struct [(0, 130), (5, 349), (6, 4), (7, 3)], 8, 56, [.int .u64, .int .i64, .int .i64, .int .i64, .int .i64, .int .u32, .bool, .int .i64]⟩
def ti355 : TI := ⟨.struct [(0, 40), (1, 3), (2, 3), (3, 5), (4, 2), (5, 2)], 6, 48, [.int .u64, .int .i64, .int .i64, .int .u8, .int .i64, .int .i64]⟩
def ti359 : TI := ⟨.tuple [283, 3], 1, 0, []⟩
def ti361 : TI := ⟨.tuple [283, 4], 1, 0, []⟩
def ti365 : TI := ⟨.struct [(0, 2), (1, 2), (2, 2), (3, 2), (4, 2), (5, 2), (6, 2)], 7, 56, [.int .i64, .int .i64, .int .i64, .int .i64, .int .i64, .int .i64, .int .i64]⟩
def ti367 : TI := ⟨.ptr, 1, 8, [.ptr]⟩
def ti374 : TI := ⟨.int .u64, 1, 8, [.int .u64]⟩
def ti375 : TI := ⟨.ptr, 1, 8, [.ptr]⟩
def ti377 : TI := ⟨.struct [(0, 2), (1, 40), (2, 3)], 3, 24, [.int .i64, .int .u64, .int .i64]⟩
def ti379 : TI := ⟨.tuple [261, 4], 1, 0, []⟩
def ti387 : TI := ⟨.func, 1, 8, [.func]⟩
def ti392 : TI := ⟨.struct [(0, 40), (1, 40)], 2, 16, [.int .u64, .int .u64]⟩
def ti405 : TI := ⟨.tuple [286, 40], 1, 0, []⟩
def ti408 : TI := ⟨.tuple [392, 40], 1, 0, []⟩
def ti411 : TI := ⟨.tuple [40, 40], 1, 0, []⟩
def ti413 : TI := ⟨.tuple [392, 4], 1, 0, []⟩
def ti418 : TI := ⟨.int .i64, 1, 8, [.int .i64]⟩
def ti419 : TI := ⟨.tuple [3, 418], 1, 0, []⟩
def ti432 : TI := ⟨.int .u64, 1, 8, [.int .u64]⟩
def ti435 : TI := ⟨.ptr, 1, 8, [.ptr]⟩
def ti438 : TI := ⟨.iface, 1, 16, [.iface]⟩
def ti439 : TI := ⟨.ptr, 1, 8, [.ptr]⟩
def ti440 : TI := ⟨.tuple [3, 3], 1, 0, []⟩
def tyT : TyTree := .node 185 (.node 103 (.node 51 (.node 27 (.node 9 (.node 3 (.node 2 (.one 0 ti0) (.one 2 ti2)) (.node 4 (.one 3 ti3) (.node 5 (.one 4 ti4) (.one 5 ti5)))) (.node 22 (.node 21 (.one 9 ti9) (.one 21 ti21)) (.node 24 (.one 22 ti22) (.node 25 (.one 24 ti24) (.one 25 ti25))))) (.node 38 (.node 29 (.node 28 (.one 27 ti27) (.one 28 ti28)) (.node 32 (.one 29 ti29) (.node 34 (.one 32 ti32) (.one 34 ti34)))) (.node 43 (.node 40 (.one 38 ti38) (.node 42 (.one 40 ti40) (.one 42 ti42))) (.node 47 (.one 43 ti43) (.node 50 (.one 47 ti47) (.one 50 ti50)))))) (.node 78 (.node 62 (.node 53 (.node 52 (.one 51 ti51) (.one 52 ti52)) (.node 58 (.one 53 ti53) (.node 60 (.one 58 ti58) (.one 60 ti60)))) (.node 69 (.node 64 (.one 62 ti62) (.node 67 (.one 64 ti64) (.one 67 ti67))) (.node 74 (.one 69 ti69) (.node 76 (.one 74 ti74) (.one 76 ti76))))) (.node 86 (.node 81 (.node 79 (.one 78 ti78) (.one 79 ti79)) (.node 82 (.one 81 ti81) (.node 83 (.one 82 ti82) (.one 83 ti83)))) (.node 99 (.node 90 (.one 86 ti86) (.node 94 (.one 90 ti90) (.one 94 ti94))) (.node 100 (.one 99 ti99) (.node 101 (.one 100 ti100) (.one 101 ti101))))))) (.node 142 (.node 117 (.node 109 (.node 105 (.node 104 (.one 103 ti103) (.one 104 ti104)) (.node 106 (.one 105 ti105) (.node 108 (.one 106 ti106) (.one 108 ti108)))) (.node 114 (.node 111 (.one 109 ti109) (.node 112 (.one 111 ti111) (.one 112 ti112))) (.node 115 (.one 114 ti114) (.node 116 (.one 115 ti115) (.one 116 ti116))))) (.node 126 (.node 120 (.node 119 (.one 117 ti117) (.one 119 ti119)) (.node 122 (.one 120 ti120) (.node 124 (.one 122 ti122) (.one 124 ti124)))) (.node 132 (.node 129 (.one 126 ti126) (.node 130 (.one 129 ti129) (.one 130 ti130))) (.node 136 (.one 132 ti132) (.node 141 (.one 136 ti136) (.one 141 ti141)))))) (.node 167 (.node 151 (.node 146 (.node 144 (.one 142 ti142) (.one 144 ti144)) (.node 148 (.one 146 ti146) (.node 149 (.one 148 ti148) (.one 149 ti149)))) (.node 156 (.node 153 (.one 151 ti151) (.node 154 (.one 153 ti153) (.one 154 ti154))) (.node 158 (.one 156 ti156) (.node 161 (.one 158 ti158) (.one 161 ti161))))) (.node 176 (.node 170 (.node 169 (.one 167 ti167) (.one 169 ti169)) (.node 172 (.one 170 ti170) (.node 174 (.one 172 ti172) (.one 174 ti174)))) (.node 181 (.node 177 (.one 176 ti176) (.node 179 (.one 177 ti177) (.one 179 ti179))) (.node 182 (.one 181 ti181) (.node 183 (.one 182 ti182) (.one 183 ti183)))))))) (.node 287 (.node 241 (.node 213 (.node 196 (.node 188 (.node 186 (.one 185 ti185) (.one 186 ti186)) (.node 191 (.one 188 ti188) (.node 194 (.one 191 ti191) (.one 194 ti194)))) (.node 203 (.node 198 (.one 196 ti196) (.node 201 (.one 198 ti198) (.one 201 ti201))) (.node 206 (.one 203 ti203) (.node 210 (.one 206 ti206) (.one 210 ti210))))) (.node 223 (.node 216 (.node 214 (.one 213 ti213) (.one 214 ti214)) (.node 218 (.one 216 ti216) (.node 220 (.one 218 ti218) (.one 220 ti220)))) (.node 228 (.node 225 (.one 223 ti223) (.node 227 (.one 225 ti225) (.one 227 ti227))) (.node 230 (.one 228 ti228) (.node 239 (.one 230 ti230) (.one 239 ti239)))))) (.node 263 (.node 248 (.node 244 (.node 242 (.one 241 ti241) (.one 242 ti242)) (.node 245 (.one 244 ti244) (.node 247 (.one 245 ti245) (.one 247 ti247)))) (.node 254 (.node 250 (.one 248 ti248) (.node 252 (.one 250 ti250) (.one 252 ti252))) (.node 257 (.one 254 ti254) (.node 261 (.one 257 ti257) (.one 261 ti261))))) (.node 279 (.node 267 (.node 265 (.one 263 ti263) (.one 265 ti265)) (.node 269 (.one 267 ti267) (.node 278 (.one 269 ti269) (.one 278 ti278)))) (.node 283 (.node 280 (.one 279 ti279) (.node 282 (.one 280 ti280) (.one 282 ti282))) (.node 284 (.one 283 ti283) (.node 286 (.one 284 ti284) (.one 286 ti286))))))) (.node 355 (.node 319 (.node 308 (.node 302 (.node 300 (.one 287 ti287) (.one 300 ti300)) (.node 303 (.one 302 ti302) (.node 305 (.one 303 ti303) (.one 305 ti305)))) (.node 314 (.node 311 (.one 308 ti308) (.node 312 (.one 311 ti311) (.one 312 ti312))) (.node 316 (.one 314 ti314) (.node 318 (.one 316 ti316) (.one 318 ti318))))) (.node 335 (.node 322 (.node 321 (.one 319 ti319) (.one 321 ti321)) (.node 324 (.one 322 ti322) (.node 330 (.one 324 ti324) (.one 330 ti330)))) (.node 347 (.node 337 (.one 335 ti335) (.node 339 (.one 337 ti337) (.one 339 ti339))) (.node 349 (.one 347 ti347) (.node 351 (.one 349 ti349) (.one 351 ti351)))))) (.node 405 (.node 374 (.node 361 (.node 359 (.one 355 ti355) (.one 359 ti359)) (.node 365 (.one 361 ti361) (.node 367 (.one 365 ti365) (.one 367 ti367)))) (.node 379 (.node 375 (.one 374 ti374) (.node 377 (.one 375 ti375) (.one 377 ti377))) (.node 387 (.one 379 ti379) (.node 392 (.one 387 ti387) (.one 392 ti392))))) (.node 419 (.node 411 (.node 408 (.one 405 ti405) (.one 408 ti408)) (.node 413 (.one 411 ti411) (.node 418 (.one 413 ti413) (.one 418 ti418)))) (.node 438 (.node 432 (.one 419 ti419) (.node 435 (.one 432 ti432) (.one 435 ti435))) (.node 439 (.one 438 ti438) (.node 440 (.one 439 ti439) (.one 440 ti440))))))))
def hasBody (f : Nat) : Bool := Nat.blt f 317 && ![0, 1, 107, 108, 164, 165, 166, 174, 221, 246, 289, 297, 298, 299, 300, 301, 302, 303, 304, 305, 306, 307, 308, 309, 310, 311, 312, 313, 314, 315, 316].contains f
def xtOf (f : Nat) : Option Xt := if f = 107 then some (.load .i64) else if f = 108 then some (.cas .i64) else if f = 164 then some (.store) else if f = 165 then some (.load .i32) else if f = 166 then some (.store) else if f = 174 then some (.load .u64) else if f = 221 then some (.add .u64) else if f = 246 then some (.cas .u64) else if f = 289 then some (.add64) else none
def isQuiet (f : Nat) : Bool := [18, 22, 23, 24, 29, 30, 32, 33, 34, 35, 37, 42, 43, 44, 50, 56, 57, 61, 63, 64, 76, 77, 84, 86, 88, 89, 90, 91, 92, 102, 103, 104, 109, 110, 112, 116, 120, 121, 122, 126, 127, 128, 131, 132, 133, 134, 135, 136, 137, 138, 140, 141, 142, 144, 146, 149, 150, 151, 153, 154, 156, 157, 163, 167, 173, 175, 176, 177, 181, 184, 185, 186, 187, 188, 189, 190, 191, 192, 193, 194, 195, 196, 197, 198, 201, 202, 204, 206, 208, 210, 212, 217, 218, 225, 226, 227, 229, 230, 231, 232, 233, 234, 237, 240, 241, 244, 249, 250, 251, 252, 253, 254, 255, 257, 258, 259, 260, 261, 262, 266, 267, 268, 269, 270, 271, 280, 281, 282, 283, 284, 287, 288, 291, 295].contains f
def isEq (t : Nat) : Bool := [32, 42, 62, 94, 99, 100, 124, 129, 132, 392].contains t
def T0 : Tell := { ty := tyT.find, body := hasBody, ext := fun f args w K => match xtOf f with | some x => xtK x args.toList w K | none => False, quiet := isQuiet, eq := isEq }
noncomputable def fnOf (f : Nat) : Func := (P.funcs[f]?).getD default
noncomputable def bodyOf (f : Nat) : Code := ((P.funcs[f]?).bind (·.body)).getD .skip
def O0 : Orac := { loop := fun _ _ _ _ => False, cut := fun _ => none }
theorem ty_ok : tyT.ok P = true := by kernel_rfl
theorem body_ok : ((List.range 317).all fun f => !hasBody f || funcOk P f) = true := by kernel_rfl
theorem xt107 : XtOk P 107 (.load .i64) (fnOf 107) := ⟨by kernel_rfl, by kernel_rfl, by kernel_rfl, by kernel_rfl, by kernel_rfl⟩
theorem xt108 : XtOk P 108 (.cas .i64) (fnOf 108) := ⟨by kernel_rfl, by kernel_rfl, by kernel_rfl, by kernel_rfl, by kernel_rfl⟩
theorem xt164 : XtOk P 164 (.store) (fnOf 164) := ⟨by kernel_rfl, by kernel_rfl, by kernel_rfl, by kernel_rfl, by kernel_rfl⟩
theorem xt165 : XtOk P 165 (.load .i32) (fnOf 165) := ⟨by kernel_rfl, by kernel_rfl, by kernel_rfl, by kernel_rfl, by kernel_rfl⟩
theorem xt166 : XtOk P 166 (.store) (fnOf 166) := ⟨by kernel_rfl, by kernel_rfl, by kernel_rfl, by kernel_rfl, by kernel_rfl⟩
theorem xt174 : XtOk P 174 (.load .u64) (fnOf 174) := ⟨by kernel_rfl, by kernel_rfl, by kernel_rfl, by kernel_rfl, by kernel_rfl⟩
theorem xt221 : XtOk P 221 (.add .u64) (fnOf 221) := ⟨by kernel_rfl, by kernel_rfl, by kernel_rfl, by kernel_rfl, by kernel_rfl⟩
theorem xt246 : XtOk P 246 (.cas .u64) (fnOf 246) := ⟨by kernel_rfl, by kernel_rfl, by kernel_rfl, by kernel_rfl, by kernel_rfl⟩
theorem xt289 : XtOk P 289 (.add64) (fnOf 289) := ⟨by kernel_rfl, by kernel_rfl, by kernel_rfl, by kernel_rfl, by kernel_rfl⟩
theorem told_ok : T0.Ok P where
  ty := fun t ti h => TyTree.find_ok ty_ok h
  body := fun f h args w => by
    have hlt : f < 317 := by
      have h1 : hasBody f = true := h
      unfold hasBody at h1
      simp only [Bool.and_eq_true] at h1
      exact Nat.blt_eq ▸ h1.1
    have h1 := List.all_eq_true.1 body_ok f (List.mem_range.2 hlt)
    have h2 : hasBody f = true := h
    rw [h2] at h1
    exact funcOk_spec (by simpa using h1) args w
  ext := fun f args w K h => by
    simp only [T0] at h
    unfold xtOf at h
    by_cases h107 : f = 107
    · subst h107; exact xt_sound xt107 h
    rw [if_neg h107] at h
    by_cases h108 : f = 108
    · subst h108; exact xt_sound xt108 h
    rw [if_neg h108] at h
    by_cases h164 : f = 164
    · subst h164; exact xt_sound xt164 h
    rw [if_neg h164] at h
    by_cases h165 : f = 165
    · subst h165; exact xt_sound xt165 h
    rw [if_neg h165] at h
    by_cases h166 : f = 166
    · subst h166; exact xt_sound xt166 h
    rw [if_neg h166] at h
    by_cases h174 : f = 174
    · subst h174; exact xt_sound xt174 h
    rw [if_neg h174] at h
    by_cases h221 : f = 221
    · subst h221; exact xt_sound xt221 h
    rw [if_neg h221] at h
    by_cases h246 : f = 246
    · subst h246; exact xt_sound xt246 h
    rw [if_neg h246] at h
    by_cases h289 : f = 289
    · subst h289; exact xt_sound xt289 h
    rw [if_neg h289] at h
    exact h.elim
  mixed := by kernel_rfl
theorem eqTypes_ok : ([32, 42, 62, 94, 99, 100, 124, 129, 132, 392].all fun t => !P.stoodInHeld t && (P.fieldsOf t).toList.all fun f => f.name != "_") = true := by kernel_rfl
theorem eqGuards_ok : ([32, 42, 62, 94, 99, 100, 124, 129, 132, 392].all fun t => !P.eqGuardType P.depth t) = true := by kernel_rfl
theorem isEq_mem {t : Nat} (h : T0.eq t = true) : t ∈ ([32, 42, 62, 94, 99, 100, 124, 129, 132, 392] : List Nat) := by
  have h1 : isEq t = true := h
  unfold isEq at h1
  exact List.contains_iff_mem.1 h1
theorem eq_ok : EqOk P T0 := fun t h => by
  have := List.all_eq_true.1 eqTypes_ok t (isEq_mem h)
  simp only [Bool.and_eq_true, Bool.not_eq_true', List.all_eq_true, bne_iff_ne, ne_eq] at this
  exact this
theorem W2 : World2 P T0 := ⟨told_ok, eq_ok, fun t h => by
  have := List.all_eq_true.1 eqGuards_ok t (isEq_mem h)
  simpa using this⟩

end Go.M
