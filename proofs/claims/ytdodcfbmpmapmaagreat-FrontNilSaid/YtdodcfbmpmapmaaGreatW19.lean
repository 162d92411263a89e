/- Proofs about the front of the overload controller, part 19: C33 C34 C35 C36. -/
import Derived.Test.YtdodcfbmpmapmaaGreatW17
import Derived.Test.YtdodcfbmpmapmaaGreatW07
import Derived.Test.YtdodcfbmpmapmaaGreatW16
import Derived.Test.YtdodcfbmpmapmaaGreatW18
set_option linter.all false
set_option linter.constructorNameAsVariable false
set_option linter.unusedVariables false
/- A front in memory. -/
set_option linter.all false
set_option linter.constructorNameAsVariable false
set_option maxRecDepth 100000
namespace Go.M
open Go Go.Eng Go.RowKit

/-- what was applied -/
structure Ap where
  thread : Int
  clock : Int
  op : Opn
  res : Rs
  deriving DecidableEq

def Ap.cells (a : Ap) : List Value := .int .i64 a.thread :: .int .i64 a.clock :: (a.op.cells ++ a.res.cells)

/-- whose a block is -/
inductive Tg where
  | front | threads | ring | slots | lock | app | core | other
  | box (k : Nat)
  | act (k : Nat)

structure FIds where
  fb : Nat
  tb : Nat
  rb : Nat
  sb : Nat
  kb : Nat
  ao : Option Nat
  c : CIds
  bx : Nat → Nat
  ac : Nat → Nat
  tag : Nat → Tg

structure FrontC where
  h : FrontHM
  bs : Nat → BoxM
  av : Nat → ActM
  r : RingM
  lk : LockM
  ap : List Ap
  ch : CoreHM
  cn : Nat
  T : Int
  rows : Nat → List (Int × Rq)
  log : List Oc

structure FAt (w : World) (d : FIds) (f : FrontC) : Prop where
  hd : FrontHAt w d.fb d.tb f.h
  core : f.h.core = some ⟨d.c.cb, 0, none⟩
  ring : f.h.ring = some ⟨d.rb, 0, none⟩
  lock : f.h.lock = some ⟨d.kb, 0, none⟩
  ca : CAt w d.c f.ch f.cn f.T f.rows f.log
  ra : RingAt w d.rb d.sb f.r
  la : LockAt w d.kb f.lk
  box : ∀ k, k < f.h.n → f.h.box k = some ⟨d.bx k, 0, none⟩ ∧ BoxAt w (d.bx k) (f.bs k)
  act : ∀ k, k < f.h.n → f.h.act k ≠ none → f.h.act k = some ⟨d.ac k, 0, none⟩ ∧ ActAt w (d.ac k) (f.av k) ∧ (f.av k).r = some ⟨d.rb, 0, none⟩ ∧ d.tag (d.ac k) = .act k
  app : ∃ sv, w.cell? ⟨d.fb, 5, none⟩ = some sv ∧ w.ownsRow 0 62 11 sv f.ap.length (f.ap.flatMap Ap.cells) ∧ sv.ownBlock = d.ao
  t_fb : d.tag d.fb = .front
  t_tb : d.tag d.tb = .threads
  t_rb : d.tag d.rb = .ring
  t_sb : d.tag d.sb = .slots
  t_kb : d.tag d.kb = .lock
  t_ao : ∀ g, d.ao = some g → d.tag g = .app
  t_c : ∀ b ∈ d.c.list, d.tag b = .core
  t_bx : ∀ k, k < f.h.n → d.tag (d.bx k) = .box k
  t_new : ∀ b, w.heap.size ≤ b → d.tag b = .other

/-- a block that belongs to a front -/
def FIds.has (d : FIds) (b : Nat) : Prop := d.tag b ≠ .other

variable {w w' : World} {d : FIds} {f : FrontC}

theorem tag_ne {d : FIds} {a b : Nat} {x y : Tg} (ha : d.tag a = x) (hb : d.tag b = y) (h : x ≠ y) : a ≠ b := fun e => h (by rw [← ha, ← hb, e])

theorem FAt.lt (a : FAt w d f) : d.fb < w.heap.size ∧ d.tb < w.heap.size ∧ d.rb < w.heap.size ∧ d.sb < w.heap.size ∧ d.kb < w.heap.size ∧ (∀ g, d.ao = some g → g < w.heap.size) ∧ (∀ b ∈ d.c.list, b < w.heap.size) ∧ (∀ k, k < f.h.n → d.bx k < w.heap.size) ∧ (∀ k, k < f.h.n → f.h.act k ≠ none → d.ac k < w.heap.size) := by
  refine ⟨a.hd.lt_pb, a.hd.lt_tb, a.ra.lt_pb, a.ra.lt_sb, a.la.lt_pb, fun g hg => ?_, a.ca.lt, fun k hk => (a.box k hk).2.lt_pb, fun k hk hn => (a.act k hk hn).2.1.lt_pb⟩
  obtain ⟨sv, g1, g2, g3⟩ := a.app
  exact (g2.lt g (by rw [g3, hg])).2

/-- what a step that touches none of a front's blocks leaves -/
theorem FAt.only {S : List Nat} (a : FAt w d f) (ho : Only S w w') (hs : ∀ b ∈ S, d.tag b = .other ∨ w.heap.size ≤ b) : FAt w' d f := by
  obtain ⟨l1, l2, l3, l4, l5, l6, l7, l8, l9⟩ := a.lt
  have no : ∀ b x, b < w.heap.size → d.tag b = x → x ≠ .other → b ∉ S := fun b x hl hx hne hb => by
    rcases hs b hb with h | h
    · exact hne (hx.symm.trans h)
    · omega
  refine ⟨a.hd.only ho (no _ _ l1 a.t_fb (by simp)) (no _ _ l2 a.t_tb (by simp)), a.core, a.ring, a.lock, a.ca.only ho fun b hb => no b _ (l7 b hb) (a.t_c b hb) (by simp), a.ra.only ho (no _ _ l3 a.t_rb (by simp)) (no _ _ l4 a.t_sb (by simp)), a.la.only ho (no _ _ l5 a.t_kb (by simp)),
    fun k hk => ⟨(a.box k hk).1, (a.box k hk).2.only ho (no _ _ (l8 k hk) (a.t_bx k hk) (by simp))⟩, fun k hk hn => ?_, ?_, a.t_fb, a.t_tb, a.t_rb, a.t_sb, a.t_kb, a.t_ao, a.t_c, a.t_bx, fun b hb => a.t_new b (Nat.le_trans ho.size hb)⟩
  · obtain ⟨h1, h2, h3, h4⟩ := a.act k hk hn
    exact ⟨h1, h2.only ho (no _ _ (l9 k hk hn) h4 (by simp)), h3, h4⟩
  · obtain ⟨sv, g1, g2, g3⟩ := a.app
    exact ⟨sv, ho.cell g1 (no _ _ l1 a.t_fb (by simp)), own_kept g2 ho (fun b hb => no b _ (l6 b (g3 ▸ hb)) (a.t_ao b (g3 ▸ hb)) (by simp)), g3⟩

theorem FAt.only0 (a : FAt w d f) (ho : Only [] w w') : FAt w' d f := a.only ho (by simp)

/-- the head is turned, but for what it leads to -/
theorem FAt.hdTo (a : FAt w d f) {h' : FrontHM} (ho : Only [d.tb] w w') (hh : FrontHAt w' d.fb d.tb h') (e1 : h'.core = f.h.core) (e2 : h'.ring = f.h.ring) (e3 : h'.lock = f.h.lock) (e4 : h'.n = f.h.n) (e5 : h'.box = f.h.box) (e6 : h'.act = f.h.act) : FAt w' d { f with h := h' } := by
  have no : ∀ b x, d.tag b = x → x ≠ .threads → b ∉ [d.tb] := fun b x hx hne hb => by
    have e : b = d.tb := by simpa using hb
    exact hne (by rw [← hx, e, a.t_tb])
  refine ⟨hh, e1.trans a.core, e2.trans a.ring, e3.trans a.lock, a.ca.only ho fun b hb => no b _ (a.t_c b hb) (by simp), a.ra.only ho (no _ _ a.t_rb (by simp)) (no _ _ a.t_sb (by simp)), a.la.only ho (no _ _ a.t_kb (by simp)),
    fun k hk => ?_, fun k hk hn => ?_, ?_, a.t_fb, a.t_tb, a.t_rb, a.t_sb, a.t_kb, a.t_ao, a.t_c, fun k hk => a.t_bx k (e4 ▸ hk), fun b hb => a.t_new b (Nat.le_trans ho.size hb)⟩
  · have hk' : k < f.h.n := e4 ▸ hk
    exact ⟨(congrFun e5 k).trans (a.box k hk').1, (a.box k hk').2.only ho (no _ _ (a.t_bx k hk') (by simp))⟩
  · have hk' : k < f.h.n := e4 ▸ hk
    obtain ⟨h1, h2, h3, h4⟩ := a.act k hk' (fun e => hn ((congrFun e6 k).trans e))
    exact ⟨(congrFun e6 k).trans h1, h2.only ho (no _ _ h4 (by simp)), h3, h4⟩
  · obtain ⟨sv, g1, g2, g3⟩ := a.app
    exact ⟨sv, ho.cell g1 (no _ _ a.t_fb (by simp)), own_kept g2 ho (fun b hb => no b _ (a.t_ao b (g3 ▸ hb)) (by simp)), g3⟩

/-- the clock is turned -/
theorem FAt.clockTo (a : FAt w d f) (v : Int) : FAt (w.setCell ⟨d.fb, 4, none⟩ (.int .i64 v)) d { f with h := { f.h with clock := v } } := by
  have ho : Only [d.fb] w (w.setCell ⟨d.fb, 4, none⟩ (.int .i64 v)) := (Only.refl _ w).st (.inl (by simp)) a.hd.h_clock
  have no : ∀ b x, d.tag b = x → x ≠ .front → b ∉ [d.fb] := fun b x hx hne hb => by
    have e : b = d.fb := by simpa using hb
    exact hne (by rw [← hx, e, a.t_fb])
  refine ⟨a.hd.set_clock v, a.core, a.ring, a.lock, a.ca.only ho fun b hb => no b _ (a.t_c b hb) (by simp), a.ra.only ho (no _ _ a.t_rb (by simp)) (no _ _ a.t_sb (by simp)), a.la.only ho (no _ _ a.t_kb (by simp)),
    fun k hk => ⟨(a.box k hk).1, (a.box k hk).2.only ho (no _ _ (a.t_bx k hk) (by simp))⟩, fun k hk hn => ?_, ?_, a.t_fb, a.t_tb, a.t_rb, a.t_sb, a.t_kb, a.t_ao, a.t_c, a.t_bx, fun b hb => a.t_new b (Nat.le_trans ho.size hb)⟩
  · obtain ⟨h1, h2, h3, h4⟩ := a.act k hk hn
    exact ⟨h1, h2.only ho (no _ _ h4 (by simp)), h3, h4⟩
  · obtain ⟨sv, g1, g2, g3⟩ := a.app
    exact ⟨sv, (cell_set_ne (.inr (by omega))).trans g1, own_kept g2 ho (fun b hb => no b _ (a.t_ao b (g3 ▸ hb)) (by simp)), g3⟩

/-- a box is turned -/
theorem FAt.boxTo (a : FAt w d f) {k : Nat} (hk : k < f.h.n) (ho : Only [d.bx k] w w') {b' : BoxM} (hb : BoxAt w' (d.bx k) b') : FAt w' d { f with bs := upd f.bs k b' } := by
  have no : ∀ b x, d.tag b = x → x ≠ .box k → b ∉ [d.bx k] := fun b x hx hne hb => by
    have e : b = d.bx k := by simpa using hb
    exact hne (by rw [← hx, e, a.t_bx k hk])
  refine ⟨a.hd.only ho (no _ _ a.t_fb (by simp)) (no _ _ a.t_tb (by simp)), a.core, a.ring, a.lock, a.ca.only ho fun b hb => no b _ (a.t_c b hb) (by simp), a.ra.only ho (no _ _ a.t_rb (by simp)) (no _ _ a.t_sb (by simp)), a.la.only ho (no _ _ a.t_kb (by simp)),
    fun j hj => ⟨(a.box j hj).1, ?_⟩, fun j hj hn => ?_, ?_, a.t_fb, a.t_tb, a.t_rb, a.t_sb, a.t_kb, a.t_ao, a.t_c, a.t_bx, fun b hb => a.t_new b (Nat.le_trans ho.size hb)⟩
  · show BoxAt w' (d.bx j) (upd f.bs k b' j)
    by_cases e : j = k
    · subst e; rw [upd_same]; exact hb
    · rw [upd_other e]; exact (a.box j hj).2.only ho (no _ _ (a.t_bx j hj) (by simpa using e))
  · obtain ⟨h1, h2, h3, h4⟩ := a.act j hj hn
    exact ⟨h1, h2.only ho (no _ _ h4 (by simp)), h3, h4⟩
  · obtain ⟨sv, g1, g2, g3⟩ := a.app
    exact ⟨sv, ho.cell g1 (no _ _ a.t_fb (by simp)), own_kept g2 ho (fun b hb => no b _ (a.t_ao b (g3 ▸ hb)) (by simp)), g3⟩

/-- the lock is turned -/
theorem FAt.lockTo (a : FAt w d f) (ho : Only [d.kb] w w') {l' : LockM} (hb : LockAt w' d.kb l') : FAt w' d { f with lk := l' } := by
  have no : ∀ b x, d.tag b = x → x ≠ .lock → b ∉ [d.kb] := fun b x hx hne hb => by
    have e : b = d.kb := by simpa using hb
    exact hne (by rw [← hx, e, a.t_kb])
  refine ⟨a.hd.only ho (no _ _ a.t_fb (by simp)) (no _ _ a.t_tb (by simp)), a.core, a.ring, a.lock, a.ca.only ho fun b hb => no b _ (a.t_c b hb) (by simp), a.ra.only ho (no _ _ a.t_rb (by simp)) (no _ _ a.t_sb (by simp)), hb,
    fun j hj => ⟨(a.box j hj).1, (a.box j hj).2.only ho (no _ _ (a.t_bx j hj) (by simp))⟩, fun j hj hn => ?_, ?_, a.t_fb, a.t_tb, a.t_rb, a.t_sb, a.t_kb, a.t_ao, a.t_c, a.t_bx, fun b hb => a.t_new b (Nat.le_trans ho.size hb)⟩
  · obtain ⟨h1, h2, h3, h4⟩ := a.act j hj hn
    exact ⟨h1, h2.only ho (no _ _ h4 (by simp)), h3, h4⟩
  · obtain ⟨sv, g1, g2, g3⟩ := a.app
    exact ⟨sv, ho.cell g1 (no _ _ a.t_fb (by simp)), own_kept g2 ho (fun b hb => no b _ (a.t_ao b (g3 ▸ hb)) (by simp)), g3⟩

/-- an act has done a step -/
theorem FAt.actTo (a : FAt w d f) {k : Nat} (hk : k < f.h.n) (hn : f.h.act k ≠ none) (ho : Only [d.ac k, d.rb, d.sb] w w') {r' : RingM} {a' : ActM} (hr : RingAt w' d.rb d.sb r') (ha : ActAt w' (d.ac k) a') (har : a'.r = (f.av k).r) : FAt w' d { f with r := r', av := upd f.av k a' } := by
  obtain ⟨k1, k2, k3, k4⟩ := a.act k hk hn
  have no : ∀ b x, d.tag b = x → x ≠ .act k → x ≠ .ring → x ≠ .slots → b ∉ [d.ac k, d.rb, d.sb] := fun b x hx h1 h2 h3 hb => by
    simp only [List.mem_cons, List.not_mem_nil, or_false] at hb
    rcases hb with e | e | e
    · exact h1 (by rw [← hx, e, k4])
    · exact h2 (by rw [← hx, e, a.t_rb])
    · exact h3 (by rw [← hx, e, a.t_sb])
  refine ⟨a.hd.only ho (no _ _ a.t_fb (by simp) (by simp) (by simp)) (no _ _ a.t_tb (by simp) (by simp) (by simp)), a.core, a.ring, a.lock, a.ca.only ho fun b hb => no b _ (a.t_c b hb) (by simp) (by simp) (by simp), hr, a.la.only ho (no _ _ a.t_kb (by simp) (by simp) (by simp)),
    fun j hj => ⟨(a.box j hj).1, (a.box j hj).2.only ho (no _ _ (a.t_bx j hj) (by simp) (by simp) (by simp))⟩, fun j hj hnj => ?_, ?_, a.t_fb, a.t_tb, a.t_rb, a.t_sb, a.t_kb, a.t_ao, a.t_c, a.t_bx, fun b hb => a.t_new b (Nat.le_trans ho.size hb)⟩
  · obtain ⟨h1, h2, h3, h4⟩ := a.act j hj hnj
    show f.h.act j = _ ∧ ActAt w' (d.ac j) (upd f.av k a' j) ∧ (upd f.av k a' j).r = _ ∧ _
    by_cases e : j = k
    · subst e; rw [upd_same]; exact ⟨h1, ha, har.trans h3, h4⟩
    · rw [upd_other e]; exact ⟨h1, h2.only ho (no _ _ h4 (by simpa using e) (by simp) (by simp)), h3, h4⟩
  · obtain ⟨sv, g1, g2, g3⟩ := a.app
    exact ⟨sv, ho.cell g1 (no _ _ a.t_fb (by simp) (by simp) (by simp)), own_kept g2 ho (fun b hb => no b _ (a.t_ao b (g3 ▸ hb)) (by simp) (by simp) (by simp)), g3⟩

/-- a thread is given a new act, that lies there already -/
theorem FAt.newAct (a : FAt w d f) {k b : Nat} {a' : ActM} (hk : k < f.h.n) (hb : ActAt w b a') (hr : a'.r = some ⟨d.rb, 0, none⟩) (hnew : d.tag b = .other) :
    FAt (w.setCell ⟨d.tb, k * 14 + 6, none⟩ (.pointer (some ⟨b, 0, none⟩))) { d with ac := upd d.ac k b, tag := upd d.tag b (.act k) } { f with h := { f.h with act := upd f.h.act k (some ⟨b, 0, none⟩) }, av := upd f.av k a' } := by
  have ho : Only [d.tb] w (w.setCell ⟨d.tb, k * 14 + 6, none⟩ (.pointer (some ⟨b, 0, none⟩))) := (Only.refl _ w).st (.inl (by simp)) (a.hd.c_act k hk)
  have no : ∀ b x, d.tag b = x → x ≠ .threads → b ∉ [d.tb] := fun b x hx hne hb => by
    have e : b = d.tb := by simpa using hb
    exact hne (by rw [← hx, e, a.t_tb])
  have tg : ∀ x y, d.tag x = y → y ≠ .other → upd d.tag b (.act k) x = y := fun x y hx hy => by
    rw [upd_other (fun e => hy (by rw [← hx, e, hnew]))]; exact hx
  refine ⟨a.hd.set_act hk _, a.core, a.ring, a.lock, a.ca.only ho fun b hb => no b _ (a.t_c b hb) (by simp), a.ra.only ho (no _ _ a.t_rb (by simp)) (no _ _ a.t_sb (by simp)), a.la.only ho (no _ _ a.t_kb (by simp)),
    fun j hj => ⟨(a.box j hj).1, (a.box j hj).2.only ho (no _ _ (a.t_bx j hj) (by simp))⟩, fun j hj hnj => ?_, ?_, tg _ _ a.t_fb (by simp), tg _ _ a.t_tb (by simp), tg _ _ a.t_rb (by simp), tg _ _ a.t_sb (by simp), tg _ _ a.t_kb (by simp), fun g hg => tg _ _ (a.t_ao g hg) (by simp), fun x hx => tg _ _ (a.t_c x hx) (by simp), fun j hj => tg _ _ (a.t_bx j hj) (by simp), fun x hx => by
    have h5 := hb.lt_pb
    have h6 := ho.size
    exact (upd_other (show x ≠ b by omega)).trans (a.t_new x (by omega))⟩
  · show upd f.h.act k (some ⟨b, 0, none⟩) j = some ⟨upd d.ac k b j, 0, none⟩ ∧ ActAt _ (upd d.ac k b j) (upd f.av k a' j) ∧ (upd f.av k a' j).r = _ ∧ upd d.tag b (.act k) (upd d.ac k b j) = .act j
    by_cases e : j = k
    · subst e; simp only [upd_same]; exact ⟨trivial, hb.only ho (no _ _ hnew (by simp)), hr, trivial⟩
    · have hnj' : f.h.act j ≠ none := by
        have : upd f.h.act k (some ⟨b, 0, none⟩) j ≠ none := hnj
        rwa [upd_other e] at this
      obtain ⟨h1, h2, h3, h4⟩ := a.act j hj hnj'
      rw [upd_other e, upd_other e, upd_other e]
      exact ⟨h1, h2.only ho (no _ _ h4 (by simp)), h3, tg _ _ h4 (by simp)⟩
  · obtain ⟨sv, g1, g2, g3⟩ := a.app
    exact ⟨sv, ho.cell g1 (no _ _ a.t_fb (by simp)), own_kept g2 ho (fun b hb => no b _ (a.t_ao b (g3 ▸ hb)) (by simp)), g3⟩

/-- what a step does to the blocks that are no front's own: nothing -/
structure Stp (w w' : World) (d d' : FIds) : Prop where
  fr : ∃ S, Only S w w' ∧ ∀ b ∈ S, d.tag b ≠ .other ∨ w.heap.size ≤ b
  tg : ∀ b, b < w.heap.size → d'.tag b = d.tag b
  fb : d'.fb = d.fb
  tb : d'.tb = d.tb

theorem Stp.refl (w : World) (d : FIds) : Stp w w d d := ⟨⟨[], Only.refl _ _, by simp⟩, fun _ _ => rfl, rfl, rfl⟩
theorem Stp.size {d d' : FIds} (h : Stp w w' d d') : w.heap.size ≤ w'.heap.size := by obtain ⟨S, h1, _⟩ := h.fr; exact h1.size
theorem Stp.trans {w2 : World} {d d' d2 : FIds} (h : Stp w w' d d') (k : Stp w' w2 d' d2) : Stp w w2 d d2 := by
  have hs := h.size
  obtain ⟨S, h1, h2⟩ := h.fr
  obtain ⟨S', k1, k2⟩ := k.fr
  refine ⟨⟨S ++ S', (h1.mono (fun b hb => List.mem_append_left _ hb)).trans (k1.mono (fun b hb => List.mem_append_right _ hb)), fun b hb => ?_⟩, fun b hb => (k.tg b (by omega)).trans (h.tg b hb), k.fb.trans h.fb, k.tb.trans h.tb⟩
  rcases List.mem_append.1 hb with h3 | h3
  · exact h2 b h3
  · rcases k2 b h3 with h4 | h4
    · by_cases e : b < w.heap.size
      · left; rw [← h.tg b e]; exact h4
      · right; omega
    · right; omega
theorem Stp.of {S : List Nat} {d : FIds} (ho : Only S w w') (hs : ∀ b ∈ S, d.tag b ≠ .other ∨ w.heap.size ≤ b) : Stp w w' d d := ⟨⟨S, ho, hs⟩, fun _ _ => rfl, rfl, rfl⟩
theorem Stp.of0 {d : FIds} (ho : Only [] w w') : Stp w w' d d := Stp.of ho (by simp)

/-- the core is turned -/
theorem FAt.coreTo (a : FAt w d f) (ho : Only d.c.list w w') {c' : CIds} {ch' : CoreHM} {T' : Int} {rows' : Nat → List (Int × Rq)} {log' : List Oc} (hc : CAt w' c' ch' f.cn T' rows' log') (hcb : c'.cb = d.c.cb) (hnew : ∀ b ∈ c'.list, b ∈ d.c.list ∨ w.heap.size ≤ b) :
    ∃ tag', FAt w' { d with c := c', tag := tag' } { f with ch := ch', T := T', rows := rows', log := log' } ∧ Stp w w' d { d with c := c', tag := tag' } := by
  have lt := hc.lt
  have no : ∀ b x, d.tag b = x → x ≠ .core → b ∉ d.c.list := fun b x hx hne hb => hne (by rw [← hx, a.t_c b hb])
  have hold : ∀ b, b < w.heap.size → b ∈ c'.list → d.tag b = .core := fun b hb hm => by
    rcases hnew b hm with h | h
    · exact a.t_c b h
    · omega
  refine ⟨fun b => if b ∈ c'.list then .core else d.tag b, ?_, ?_⟩
  · have tg : ∀ x y, x < w.heap.size → d.tag x = y → (if x ∈ c'.list then Tg.core else d.tag x) = y := fun x y hl hx => by
      split
      · rename_i h; rw [← hx, hold x hl h]
      · exact hx
    obtain ⟨l1, l2, l3, l4, l5, l6, l7, l8, l9⟩ := a.lt
    refine ⟨a.hd.only ho (no _ _ a.t_fb (by simp)) (no _ _ a.t_tb (by simp)), by rw [hcb]; exact a.core, a.ring, a.lock, hc, a.ra.only ho (no _ _ a.t_rb (by simp)) (no _ _ a.t_sb (by simp)), a.la.only ho (no _ _ a.t_kb (by simp)),
      fun j hj => ⟨(a.box j hj).1, (a.box j hj).2.only ho (no _ _ (a.t_bx j hj) (by simp))⟩, fun j hj hn => ?_, ?_, tg _ _ l1 a.t_fb, tg _ _ l2 a.t_tb, tg _ _ l3 a.t_rb, tg _ _ l4 a.t_sb, tg _ _ l5 a.t_kb, fun g hg => tg _ _ (l6 g hg) (a.t_ao g hg), fun b hb => if_pos hb, fun j hj => tg _ _ (l8 j hj) (a.t_bx j hj), fun b hb => ?_⟩
    · obtain ⟨h1, h2, h3, h4⟩ := a.act j hj hn
      exact ⟨h1, h2.only ho (no _ _ h4 (by simp)), h3, tg _ _ (l9 j hj hn) h4⟩
    · obtain ⟨sv, g1, g2, g3⟩ := a.app
      exact ⟨sv, ho.cell g1 (no _ _ a.t_fb (by simp)), own_kept g2 ho (fun b hb => no b _ (a.t_ao b (g3 ▸ hb)) (by simp)), g3⟩
    · show (if b ∈ c'.list then Tg.core else d.tag b) = .other
      rw [if_neg (fun hc => by have := lt b hc; omega)]
      exact a.t_new b (Nat.le_trans ho.size hb)
  · refine ⟨⟨d.c.list, ho, fun b hb => .inl (by rw [a.t_c b hb]; simp)⟩, fun b hb => ?_, rfl, rfl⟩
    show (if b ∈ c'.list then Tg.core else d.tag b) = d.tag b
    split
    · rename_i h; exact (hold b hb h).symm
    · rfl

end Go.M

/- What the functions of the front do: threads (printed in part by c34gen.py). -/
set_option linter.all false
set_option linter.constructorNameAsVariable false
set_option maxRecDepth 100000
namespace Go.M
open Go Go.Eng Go.RowKit

variable {w w' : World} {d : FIds} {f : FrontC} {K : Value → World → Prop} {k : Nat}

def FrontC.sNext (f : FrontC) (k : Nat) (v : Int) : FrontC := { f with h := { f.h with next := upd f.h.next k v } }
theorem st_next (a : FAt w d f) (hk : k < f.h.n) {v : Int} {q : World → Prop} (hq : ∀ w', FAt w' d (f.sNext k v) → Stp w w' d d → Only [d.tb] w w' → q w') : St ⟨d.tb, k * 14, none⟩ (.int .i64 v) w q := by
  have ho : Only [d.tb] w (w.setCell ⟨d.tb, k * 14, none⟩ (.int .i64 v)) := (Only.refl _ w).st (.inl (by simp)) (a.hd.c_next k hk)
  exact St_at (a.hd.c_next k hk) (a.hd.z_tb _) (hq _ (a.hdTo ho (a.hd.set_next hk v) rfl rfl rfl rfl rfl rfl) (Stp.of ho fun b hb => .inl (by rw [List.mem_singleton.1 hb, a.t_tb]; simp)) ho)

def FrontC.sKind (f : FrontC) (k : Nat) (v : Int) : FrontC := { f with h := { f.h with kind := upd f.h.kind k v } }
theorem st_kind (a : FAt w d f) (hk : k < f.h.n) {v : Int} {q : World → Prop} (hq : ∀ w', FAt w' d (f.sKind k v) → Stp w w' d d → Only [d.tb] w w' → q w') : St ⟨d.tb, k * 14 + 1, none⟩ (.int .u8 v) w q := by
  have ho : Only [d.tb] w (w.setCell ⟨d.tb, k * 14 + 1, none⟩ (.int .u8 v)) := (Only.refl _ w).st (.inl (by simp)) (a.hd.c_kind k hk)
  exact St_at (a.hd.c_kind k hk) (a.hd.z_tb _) (hq _ (a.hdTo ho (a.hd.set_kind hk v) rfl rfl rfl rfl rfl rfl) (Stp.of ho fun b hb => .inl (by rw [List.mem_singleton.1 hb, a.t_tb]; simp)) ho)

def FrontC.sTier (f : FrontC) (k : Nat) (v : Int) : FrontC := { f with h := { f.h with tier := upd f.h.tier k v } }
theorem st_tier (a : FAt w d f) (hk : k < f.h.n) {v : Int} {q : World → Prop} (hq : ∀ w', FAt w' d (f.sTier k v) → Stp w w' d d → Only [d.tb] w w' → q w') : St ⟨d.tb, k * 14 + 2, none⟩ (.int .i64 v) w q := by
  have ho : Only [d.tb] w (w.setCell ⟨d.tb, k * 14 + 2, none⟩ (.int .i64 v)) := (Only.refl _ w).st (.inl (by simp)) (a.hd.c_tier k hk)
  exact St_at (a.hd.c_tier k hk) (a.hd.z_tb _) (hq _ (a.hdTo ho (a.hd.set_tier hk v) rfl rfl rfl rfl rfl rfl) (Stp.of ho fun b hb => .inl (by rw [List.mem_singleton.1 hb, a.t_tb]; simp)) ho)

def FrontC.sCohort (f : FrontC) (k : Nat) (v : Int) : FrontC := { f with h := { f.h with cohort := upd f.h.cohort k v } }
theorem st_cohort (a : FAt w d f) (hk : k < f.h.n) {v : Int} {q : World → Prop} (hq : ∀ w', FAt w' d (f.sCohort k v) → Stp w w' d d → Only [d.tb] w w' → q w') : St ⟨d.tb, k * 14 + 3, none⟩ (.int .i64 v) w q := by
  have ho : Only [d.tb] w (w.setCell ⟨d.tb, k * 14 + 3, none⟩ (.int .i64 v)) := (Only.refl _ w).st (.inl (by simp)) (a.hd.c_cohort k hk)
  exact St_at (a.hd.c_cohort k hk) (a.hd.z_tb _) (hq _ (a.hdTo ho (a.hd.set_cohort hk v) rfl rfl rfl rfl rfl rfl) (Stp.of ho fun b hb => .inl (by rw [List.mem_singleton.1 hb, a.t_tb]; simp)) ho)

def FrontC.sNum (f : FrontC) (k : Nat) (v : Int) : FrontC := { f with h := { f.h with num := upd f.h.num k v } }
theorem st_num (a : FAt w d f) (hk : k < f.h.n) {v : Int} {q : World → Prop} (hq : ∀ w', FAt w' d (f.sNum k v) → Stp w w' d d → Only [d.tb] w w' → q w') : St ⟨d.tb, k * 14 + 4, none⟩ (.int .i64 v) w q := by
  have ho : Only [d.tb] w (w.setCell ⟨d.tb, k * 14 + 4, none⟩ (.int .i64 v)) := (Only.refl _ w).st (.inl (by simp)) (a.hd.c_num k hk)
  exact St_at (a.hd.c_num k hk) (a.hd.z_tb _) (hq _ (a.hdTo ho (a.hd.set_num hk v) rfl rfl rfl rfl rfl rfl) (Stp.of ho fun b hb => .inl (by rw [List.mem_singleton.1 hb, a.t_tb]; simp)) ho)

def FrontC.sLeft (f : FrontC) (k : Nat) (v : Int) : FrontC := { f with h := { f.h with left := upd f.h.left k v } }
theorem st_left (a : FAt w d f) (hk : k < f.h.n) {v : Int} {q : World → Prop} (hq : ∀ w', FAt w' d (f.sLeft k v) → Stp w w' d d → Only [d.tb] w w' → q w') : St ⟨d.tb, k * 14 + 7, none⟩ (.int .i64 v) w q := by
  have ho : Only [d.tb] w (w.setCell ⟨d.tb, k * 14 + 7, none⟩ (.int .i64 v)) := (Only.refl _ w).st (.inl (by simp)) (a.hd.c_left k hk)
  exact St_at (a.hd.c_left k hk) (a.hd.z_tb _) (hq _ (a.hdTo ho (a.hd.set_left hk v) rfl rfl rfl rfl rfl rfl) (Stp.of ho fun b hb => .inl (by rw [List.mem_singleton.1 hb, a.t_tb]; simp)) ho)

def FrontC.sWhose (f : FrontC) (k : Nat) (v : Int) : FrontC := { f with h := { f.h with whose := upd f.h.whose k v } }
theorem st_whose (a : FAt w d f) (hk : k < f.h.n) {v : Int} {q : World → Prop} (hq : ∀ w', FAt w' d (f.sWhose k v) → Stp w w' d d → Only [d.tb] w w' → q w') : St ⟨d.tb, k * 14 + 8, none⟩ (.int .i64 v) w q := by
  have ho : Only [d.tb] w (w.setCell ⟨d.tb, k * 14 + 8, none⟩ (.int .i64 v)) := (Only.refl _ w).st (.inl (by simp)) (a.hd.c_whose k hk)
  exact St_at (a.hd.c_whose k hk) (a.hd.z_tb _) (hq _ (a.hdTo ho (a.hd.set_whose hk v) rfl rfl rfl rfl rfl rfl) (Stp.of ho fun b hb => .inl (by rw [List.mem_singleton.1 hb, a.t_tb]; simp)) ho)

def FrontC.sAnswer (f : FrontC) (k : Nat) (v : Int) : FrontC := { f with h := { f.h with answer := upd f.h.answer k v } }
theorem st_answer (a : FAt w d f) (hk : k < f.h.n) {v : Int} {q : World → Prop} (hq : ∀ w', FAt w' d (f.sAnswer k v) → Stp w w' d d → Only [d.tb] w w' → q w') : St ⟨d.tb, k * 14 + 9, none⟩ (.int .u8 v) w q := by
  have ho : Only [d.tb] w (w.setCell ⟨d.tb, k * 14 + 9, none⟩ (.int .u8 v)) := (Only.refl _ w).st (.inl (by simp)) (a.hd.c_answer k hk)
  exact St_at (a.hd.c_answer k hk) (a.hd.z_tb _) (hq _ (a.hdTo ho (a.hd.set_answer hk v) rfl rfl rfl rfl rfl rfl) (Stp.of ho fun b hb => .inl (by rw [List.mem_singleton.1 hb, a.t_tb]; simp)) ho)

def FrontC.sTicket (f : FrontC) (k : Nat) (v : Int) : FrontC := { f with h := { f.h with ticket := upd f.h.ticket k v } }
theorem st_ticket (a : FAt w d f) (hk : k < f.h.n) {v : Int} {q : World → Prop} (hq : ∀ w', FAt w' d (f.sTicket k v) → Stp w w' d d → Only [d.tb] w w' → q w') : St ⟨d.tb, k * 14 + 10, none⟩ (.int .u64 v) w q := by
  have ho : Only [d.tb] w (w.setCell ⟨d.tb, k * 14 + 10, none⟩ (.int .u64 v)) := (Only.refl _ w).st (.inl (by simp)) (a.hd.c_ticket k hk)
  exact St_at (a.hd.c_ticket k hk) (a.hd.z_tb _) (hq _ (a.hdTo ho (a.hd.set_ticket hk v) rfl rfl rfl rfl rfl rfl) (Stp.of ho fun b hb => .inl (by rw [List.mem_singleton.1 hb, a.t_tb]; simp)) ho)

def FrontC.sRtier (f : FrontC) (k : Nat) (v : Int) : FrontC := { f with h := { f.h with rtier := upd f.h.rtier k v } }
theorem st_rtier (a : FAt w d f) (hk : k < f.h.n) {v : Int} {q : World → Prop} (hq : ∀ w', FAt w' d (f.sRtier k v) → Stp w w' d d → Only [d.tb] w w' → q w') : St ⟨d.tb, k * 14 + 11, none⟩ (.int .i64 v) w q := by
  have ho : Only [d.tb] w (w.setCell ⟨d.tb, k * 14 + 11, none⟩ (.int .i64 v)) := (Only.refl _ w).st (.inl (by simp)) (a.hd.c_rtier k hk)
  exact St_at (a.hd.c_rtier k hk) (a.hd.z_tb _) (hq _ (a.hdTo ho (a.hd.set_rtier hk v) rfl rfl rfl rfl rfl rfl) (Stp.of ho fun b hb => .inl (by rw [List.mem_singleton.1 hb, a.t_tb]; simp)) ho)

def FrontC.sRcohort (f : FrontC) (k : Nat) (v : Int) : FrontC := { f with h := { f.h with rcohort := upd f.h.rcohort k v } }
theorem st_rcohort (a : FAt w d f) (hk : k < f.h.n) {v : Int} {q : World → Prop} (hq : ∀ w', FAt w' d (f.sRcohort k v) → Stp w w' d d → Only [d.tb] w w' → q w') : St ⟨d.tb, k * 14 + 12, none⟩ (.int .i64 v) w q := by
  have ho : Only [d.tb] w (w.setCell ⟨d.tb, k * 14 + 12, none⟩ (.int .i64 v)) := (Only.refl _ w).st (.inl (by simp)) (a.hd.c_rcohort k hk)
  exact St_at (a.hd.c_rcohort k hk) (a.hd.z_tb _) (hq _ (a.hdTo ho (a.hd.set_rcohort hk v) rfl rfl rfl rfl rfl rfl) (Stp.of ho fun b hb => .inl (by rw [List.mem_singleton.1 hb, a.t_tb]; simp)) ho)

def FrontC.sSojourn (f : FrontC) (k : Nat) (v : Int) : FrontC := { f with h := { f.h with sojourn := upd f.h.sojourn k v } }
theorem st_sojourn (a : FAt w d f) (hk : k < f.h.n) {v : Int} {q : World → Prop} (hq : ∀ w', FAt w' d (f.sSojourn k v) → Stp w w' d d → Only [d.tb] w w' → q w') : St ⟨d.tb, k * 14 + 13, none⟩ (.int .i64 v) w q := by
  have ho : Only [d.tb] w (w.setCell ⟨d.tb, k * 14 + 13, none⟩ (.int .i64 v)) := (Only.refl _ w).st (.inl (by simp)) (a.hd.c_sojourn k hk)
  exact St_at (a.hd.c_sojourn k hk) (a.hd.z_tb _) (hq _ (a.hdTo ho (a.hd.set_sojourn hk v) rfl rfl rfl rfl rfl rfl) (Stp.of ho fun b hb => .inl (by rw [List.mem_singleton.1 hb, a.t_tb]; simp)) ho)


def FrontC.sAct (f : FrontC) (k b : Nat) (a' : ActM) : FrontC := { f with h := { f.h with act := upd f.h.act k (some ⟨b, 0, none⟩) }, av := upd f.av k a' }
theorem st_act (a : FAt w d f) (hk : k < f.h.n) {b : Nat} {a' : ActM} (hb : ActAt w b a') (hr : a'.r = some ⟨d.rb, 0, none⟩) (hnew : d.tag b = .other) {wo : World} (hwo : wo.heap.size ≤ b) (hs : Stp wo w d d) {q : World → Prop}
    (hq : ∀ w' d', FAt w' d' (f.sAct k b a') → Stp wo w' d d' → d'.c = d.c → d'.rb = d.rb → d'.ao = d.ao → Only [d.tb] w w' → q w') : St ⟨d.tb, k * 14 + 6, none⟩ (.pointer (some ⟨b, 0, none⟩)) w q := by
  have ho : Only [d.tb] w (w.setCell ⟨d.tb, k * 14 + 6, none⟩ (.pointer (some ⟨b, 0, none⟩))) := (Only.refl _ w).st (.inl (by simp)) (a.hd.c_act k hk)
  refine St_at (a.hd.c_act k hk) (a.hd.z_tb _) (hq _ _ (a.newAct hk hb hr hnew) ?_ rfl rfl rfl ho)
  have h1 : Stp w _ d d := Stp.of ho fun b hb => .inl (by rw [List.mem_singleton.1 hb, a.t_tb]; simp)
  have h2 := hs.trans h1
  exact ⟨h2.fr, fun x hx => upd_other (by omega), rfl, rfl⟩

theorem thread_ok (a : FAt w d f) {i : Int} (hK : K (.pointer (if 0 ≤ i ∧ i < (f.h.n : Int) then some ⟨d.tb, i.toNat * 14, none⟩ else none)) w) : CallsV P 64 #[.pointer (some ⟨d.fb, 0, none⟩), .int .i64 i] w K := by
  refine m_front_Front_thread_ok ?_
  unfold m_front_Front_thread
  refine if_no (by simp) ?_
  by_cases h0 : i < 0
  · rw [if_neg (by omega)] at hK
    exact if_yes (by simpa using h0) hK
  · refine if_no (by simpa using h0) (nn_some ?_)
    simp only [addr_add, Nat.add_zero, Nat.zero_add]
    refine ld_slice a.hd.h_ths ?_
    obtain ⟨m, rfl⟩ := Int.eq_ofNat_of_zero_le (show 0 ≤ i by omega)
    by_cases h1 : f.h.n ≤ m
    · rw [if_neg (by omega)] at hK
      exact if_yes (by simp; omega) hK
    · rw [if_pos (by omega)] at hK
      refine if_no (by simp; omega) ?_
      unfold m_front_Front_thread_c3
      simp only
      refine nn_some ?_
      simp only [addr_add, Nat.add_zero, Nat.zero_add]
      refine ld_slice a.hd.h_ths (ix_nat (by omega) ?_)
      simpa [m_front_Front_thread_c3_o] using hK

theorem threadK_ok (a : FAt w d f) (hk : k < f.h.n) (hK : K (.pointer (some ⟨d.tb, k * 14, none⟩)) w) : CallsV P 64 #[.pointer (some ⟨d.fb, 0, none⟩), .int .i64 (k : Int)] w K :=
  thread_ok a (by rw [if_pos ⟨by omega, by omega⟩]; exact hK)

theorem where_ok (a : FAt w d f) {i : Int} (hK : K (.int .i64 (if 0 ≤ i ∧ i < (f.h.n : Int) then f.h.next i.toNat else 0)) w) : CallsV P 18 #[.pointer (some ⟨d.fb, 0, none⟩), .int .i64 i] w K := by
  refine m_front_Front_Where_ok ?_
  unfold m_front_Front_Where
  refine thread_ok a ⟨_, rfl, ?_⟩
  by_cases h : 0 ≤ i ∧ i < (f.h.n : Int)
  · rw [if_pos h] at hK ⊢
    refine if_no (by simp) (nn_some ?_)
    simp only [addr_add, Nat.add_zero, Nat.zero_add]
    exact ld_int (a.hd.c_next i.toNat (by omega)) hK
  · rw [if_neg h] at hK ⊢
    exact if_yes (by simp) hK

theorem now_ok (a : FAt w d f) (hK : K (.int .i64 f.h.clock) w) : CallsV P 24 #[.pointer (some ⟨d.fb, 0, none⟩)] w K := by
  refine m_front_Front_Now_ok ?_
  unfold m_front_Front_Now
  refine if_no (by simp) (nn_some ?_)
  simp only [addr_add, Nat.add_zero, Nat.zero_add]
  exact load64_ok a.hd.h_clock ⟨_, rfl, hK⟩

def FrontC.sClock (f : FrontC) (v : Int) : FrontC := { f with h := { f.h with clock := v } }

theorem tick_ok (a : FAt w d f) {x : Int} (hc : i64 f.h.clock) (hx : i64 x) (hK : ∀ w', Stp w w' d d → FAt w' d (if x ≤ 0 then f else f.sClock (sat (f.h.clock + x))) → K (.tuple #[]) w') : CallsV P 17 #[.pointer (some ⟨d.fb, 0, none⟩), .int .i64 x] w K := by
  refine m_front_Front_Tick_ok ?_
  unfold m_front_Front_Tick
  refine if_no (by simp) ?_
  by_cases h0 : x ≤ 0
  · rw [if_pos h0] at hK
    exact if_yes (by simpa using h0) (hK _ (Stp.refl _ _) a)
  · rw [if_neg h0] at hK
    refine if_no (by simpa using h0) (nn_some ?_)
    simp only [addr_add, Nat.add_zero, Nat.zero_add]
    refine load64_ok a.hd.h_clock ⟨_, rfl, nn_some ⟨_, qOf fun w1 K hk => add_ok hc hx (hk _ (Only.refl _ _)), fun w2 hb => ?_⟩⟩
    have o2 : Only [] w w2 := (Only.drew w).trans (onlyBelow hb)
    have a2 := a.only0 o2
    simp only [addr_add, Nat.add_zero, Nat.zero_add]
    refine cas64_ok a2.hd.h_clock (a2.hd.z_pb _) (fun _ => ⟨_, rfl, if_no (by simp) (hK _ ?_ (a2.clockTo _))⟩) (fun h => absurd rfl h)
    exact (Stp.of0 o2).trans (Stp.of ((Only.refl [d.fb] w2).st (.inl (by simp)) a2.hd.h_clock) fun b hb => .inl (by rw [List.mem_singleton.1 hb, a2.t_fb]; simp))

theorem begin_ok (a : FAt w d f) (hk : k < f.h.n) (h0 : f.h.next k = 0) {op : Opn} (hK : ∀ w', Stp w w' d d → FAt w' d (((((f.sKind k op.kind).sTier k op.tier).sCohort k op.cohort).sNum k op.num).sNext k 1) → K (.int .i64 0) w') :
    CallsV P 19 #[.pointer (some ⟨d.fb, 0, none⟩), .int .i64 (k : Int), op.v] w K := by
  refine m_front_Front_Begin_ok ?_
  unfold m_front_Front_Begin
  refine al_intro ?_
  obtain ⟨w1, hw1⟩ : ∃ w1, w.alloc (.cells #[.int .u8 op.kind, .int .i64 op.tier, .int .i64 op.cohort, .int .i64 op.num] 32) = w1 := ⟨_, rfl⟩
  have ro : Rec [] w w1 w1 w.heap.size op.cells := by rw [← hw1]; exact Rec.make (Only.refl _ w) _ _
  rw [hw1]
  have a1 := a.only0 ro.only
  refine threadK_ok a1 hk ⟨_, rfl, if_no (by simp) (if_no (by simp) (nn_some ?_))⟩
  simp only [addr_add, Nat.add_zero, Nat.zero_add]
  refine ld_int (a1.hd.c_next k hk) (if_no (by simpa using h0) (ro.int rfl (ro.int rfl (ro.int rfl (ro.int rfl (nn_some ?_))))))
  simp only [addr_add, Nat.add_zero, Nat.zero_add]
  refine st_kind a1 hk fun _ a2 s2 _ => st_tier a2 hk fun _ a3 s3 _ => st_cohort a3 hk fun _ a4 s4 _ => st_num a4 hk fun _ a5 s5 _ => nn_some ?_
  simp only [addr_add, Nat.add_zero, Nat.zero_add]
  exact st_next a5 hk fun w6 a6 s6 _ => hK w6 ((((((Stp.of0 ro.only).trans s2).trans s3).trans s4).trans s5).trans s6) a6

end Go.M

/- What the functions of the front do: the parts of a step. -/
set_option linter.all false
set_option linter.constructorNameAsVariable false
set_option maxRecDepth 100000
namespace Go.M
open Go Go.Eng Go.RowKit

variable {w w' w1 w2 : World} {d d' d2 : FIds} {f f2 : FrontC} {K : Value → World → Prop} {k : Nat}

theorem Stp.notin {b : Nat} (h : Stp w w' d d') (ht : d.tag b = .other) (hl : b < w.heap.size) : ∃ S, Only S w w' ∧ b ∉ S := by
  obtain ⟨S, h1, h2⟩ := h.fr
  refine ⟨S, h1, fun hb => ?_⟩
  rcases h2 b hb with h3 | h3
  · exact h3 ht
  · omega

theorem RsAt.stp {b : Nat} {r : Rs} (h : RsAt w b r) (s : Stp w w' d d') (ht : d.tag b = .other) : RsAt w' b r := by
  obtain ⟨S, h1, h2⟩ := s.notin ht (cell_lt h.c0)
  exact h.only h1 h2

theorem rs_put {rb : Nat} {r0 : Rs} (h : RsAt w rb r0) (r : Rs) {k : World → Prop} (hK : ∀ w', Only [rb] w w' → RsAt w' rb r → k w') :
    St ⟨rb, 0, none⟩ (.int .u8 r.answer) w fun w => St ⟨rb, 1, none⟩ (.int .u64 r.ticket) w fun w => St ⟨rb, 2, none⟩ (.int .i64 r.tier) w fun w => St ⟨rb, 3, none⟩ (.int .i64 r.cohort) w fun w => St ⟨rb, 4, none⟩ (.int .i64 r.sojourn) w k := by
  have n (i j : Nat) (v : Value) (w : World) (h : i ≠ j) : (w.setCell ⟨rb, i, none⟩ v).cell? ⟨rb, j, none⟩ = w.cell? ⟨rb, j, none⟩ := cell_set_ne (.inr (Ne.symm h))
  refine St_at h.c0 (h.z _) ?_
  have d1 := (n 0 1 (.int .u8 r.answer) w (by omega)).trans h.c1
  refine St_at d1 ((frozen_set _ _ _ _).trans (h.z _)) ?_
  have d2 := (n 1 2 (.int .u64 r.ticket) _ (by omega)).trans ((n 0 2 (.int .u8 r.answer) w (by omega)).trans h.c2)
  refine St_at d2 ((frozen_set _ _ _ _).trans ((frozen_set _ _ _ _).trans (h.z _))) ?_
  have d3 := (n 2 3 (.int .i64 r.tier) _ (by omega)).trans ((n 1 3 (.int .u64 r.ticket) _ (by omega)).trans ((n 0 3 (.int .u8 r.answer) w (by omega)).trans h.c3))
  refine St_at d3 ((frozen_set _ _ _ _).trans ((frozen_set _ _ _ _).trans ((frozen_set _ _ _ _).trans (h.z _)))) ?_
  have d4 := (n 3 4 (.int .i64 r.cohort) _ (by omega)).trans ((n 2 4 (.int .i64 r.tier) _ (by omega)).trans ((n 1 4 (.int .u64 r.ticket) _ (by omega)).trans ((n 0 4 (.int .u8 r.answer) w (by omega)).trans h.c4)))
  refine St_at d4 ((frozen_set _ _ _ _).trans ((frozen_set _ _ _ _).trans ((frozen_set _ _ _ _).trans ((frozen_set _ _ _ _).trans (h.z _))))) (hK _ ?_ ?_)
  · exact (((((Only.refl [rb] w).st (.inl (by simp)) h.c0).st (.inl (by simp)) d1).st (.inl (by simp)) d2).st (.inl (by simp)) d3).st (.inl (by simp)) d4
  · refine ⟨?_, ?_, ?_, ?_, ?_, fun i => by simp only [frozen_set]; exact h.z i⟩
    · rw [n _ _ _ _ (by omega), n _ _ _ _ (by omega), n _ _ _ _ (by omega), n _ _ _ _ (by omega)]; exact cell_set_eq h.c0
    · rw [n _ _ _ _ (by omega), n _ _ _ _ (by omega), n _ _ _ _ (by omega)]; exact cell_set_eq d1
    · rw [n _ _ _ _ (by omega), n _ _ _ _ (by omega)]; exact cell_set_eq d2
    · rw [n _ _ _ _ (by omega)]; exact cell_set_eq d3
    · exact cell_set_eq d4

theorem rs_get {rb : Nat} {r : Rs} (h : RsAt w rb r) {k : Int → Int → Int → Int → Int → Prop} (hk : k r.answer r.ticket r.tier r.cohort r.sojourn) :
    ∃ n0 : Int, w.cell? ⟨rb, 0, none⟩ = some (.int .u8 n0) ∧ ∃ n1 : Int, w.cell? ⟨rb, 1, none⟩ = some (.int .u64 n1) ∧ ∃ n2 : Int, w.cell? ⟨rb, 2, none⟩ = some (.int .i64 n2) ∧ ∃ n3 : Int, w.cell? ⟨rb, 3, none⟩ = some (.int .i64 n3) ∧ ∃ n4 : Int, w.cell? ⟨rb, 4, none⟩ = some (.int .i64 n4) ∧ k n0 n1 n2 n3 n4 :=
  ld_int h.c0 (ld_int h.c1 (ld_int h.c2 (ld_int h.c3 (ld_int h.c4 hk))))

/-- the answer is laid into a block of its own, and read -/
theorem ans_ok {rb : Nat} {r0 r : Rs} (a : FAt w2 d2 f2) (hr : RsAt w2 rb r0) (ht : d2.tag rb = .other) {q : World → Int → Int → Int → Int → Int → Prop}
    (hq : ∀ w', FAt w' d2 f2 → Stp w2 w' d2 d2 ∨ True → Only [rb] w2 w' → RsAt w' rb r → q w' r.answer r.ticket r.tier r.cohort r.sojourn) :
    St ⟨rb, 0, none⟩ (.int .u8 r.answer) w2 fun w => St ⟨rb, 1, none⟩ (.int .u64 r.ticket) w fun w => St ⟨rb, 2, none⟩ (.int .i64 r.tier) w fun w => St ⟨rb, 3, none⟩ (.int .i64 r.cohort) w fun w => St ⟨rb, 4, none⟩ (.int .i64 r.sojourn) w fun w =>
      ∃ n0 : Int, w.cell? ⟨rb, 0, none⟩ = some (.int .u8 n0) ∧ ∃ n1 : Int, w.cell? ⟨rb, 1, none⟩ = some (.int .u64 n1) ∧ ∃ n2 : Int, w.cell? ⟨rb, 2, none⟩ = some (.int .i64 n2) ∧ ∃ n3 : Int, w.cell? ⟨rb, 3, none⟩ = some (.int .i64 n3) ∧ ∃ n4 : Int, w.cell? ⟨rb, 4, none⟩ = some (.int .i64 n4) ∧ q w n0 n1 n2 n3 n4 :=
  rs_put hr r fun w' o h => rs_get h (hq w' (a.only o fun b hb => .inl (by rw [List.mem_singleton.1 hb]; exact ht)) (.inr trivial) o h)

/-- behind a step: what it did to the blocks, since w -/
theorem stp_ans {rb : Nat} (hs : Stp w w2 d d2) (hb : w.heap.size ≤ rb) (ho : Only [rb] w2 w') : Stp w w' d d2 := by
  obtain ⟨S, h1, h2⟩ := hs.fr
  refine ⟨⟨S ++ [rb], (h1.mono (fun b hb => List.mem_append_left _ hb)).trans (ho.mono (fun b hb => List.mem_append_right _ hb)), fun b hb' => ?_⟩, hs.tg, hs.fb, hs.tb⟩
  rcases List.mem_append.1 hb' with h3 | h3
  · exact h2 b h3
  · right; rw [List.mem_singleton.1 h3]; exact hb

theorem ringCap_q (a : FAt w d f) : QCall P 112 #[.pointer (some ⟨d.rb, 0, none⟩)] w (.int .i64 (f.r.n : Int)) :=
  q_of fun w1 hb K hk => cap_ok (a.ra.only (only_of_below hb) (by simp) (by simp)) (hk _ (Only.refl _ _))

def FrontC.enter (f : FrontC) (p : Option Addr) (k : Nat) : ActM := if f.h.n ≤ f.r.n then ActM.join p k else ActM.push p k

theorem enters_ok (a : FAt w d f) (hk : k < 1000000) (hK : ∀ w' b, Only [] w w' → w.heap.size ≤ b → ActAt w' b (f.enter (some ⟨d.rb, 0, none⟩) k) → K (.pointer (some ⟨b, 0, none⟩)) w') :
    CallsV P 67 #[.pointer (some ⟨d.fb, 0, none⟩), .int .i64 (k : Int)] w K := by
  refine m_front_Front_enters_ok ?_
  unfold m_front_Front_enters
  have oD : Only [] w w.drew := Only.drew w
  have ad := a.only0 oD
  refine nn_some ?_
  simp only [addr_add, Nat.add_zero, Nat.zero_add]
  refine ld_slice ad.hd.h_ths (nn_some ?_)
  simp only [addr_add, Nat.add_zero, Nat.zero_add]
  refine ld_ptr ad.hd.h_ring ?_
  rw [ad.ring]
  refine ⟨_, ringCap_q ad, fun w2 hb => ?_⟩
  have o2 := oD.trans (onlyBelow hb)
  have a2 := a.only0 o2
  have ew : IntKind.wrap .u64 (k : Int) = (k : Int) := IntWalk.u64_in _ (by omega)
  unfold FrontC.enter at hK
  have hs := o2.size
  by_cases h : f.h.n ≤ f.r.n
  · rw [if_pos h] at hK
    refine if_yes (by simp; omega) (nn_some ?_)
    simp only [addr_add, Nat.add_zero, Nat.zero_add]
    refine ld_ptr a2.hd.h_ring ?_
    rw [a2.ring, ew]
    exact actJoin_ok fun w3 o3 _ h3 => ⟨_, rfl, hK w3 _ (o2.trans o3) hs h3⟩
  · rw [if_neg h] at hK
    refine if_no (by simp; omega) (nn_some ?_)
    simp only [addr_add, Nat.add_zero, Nat.zero_add]
    refine ld_ptr a2.hd.h_ring ?_
    rw [a2.ring, ew]
    exact actPush_ok fun w3 o3 _ h3 => ⟨_, rfl, hK w3 _ (o2.trans o3) hs h3⟩

theorem takes_ok (a : FAt w d f) (hk : k < f.h.n) (hK : ∀ w' d' b, Stp w w' d d' → d'.c = d.c → d'.ao = d.ao → FAt w' d' ((f.sAct k b (ActM.pop (some ⟨d.rb, 0, none⟩))).sNext k 5) → K (.tuple #[]) w') :
    CallsV P 71 #[.pointer (some ⟨d.fb, 0, none⟩), .pointer (some ⟨d.tb, k * 14, none⟩)] w K := by
  refine m_front_Front_takes_ok ?_
  unfold m_front_Front_takes
  refine nn_some ?_
  simp only [addr_add, Nat.add_zero, Nat.zero_add]
  refine ld_ptr a.hd.h_ring ?_
  rw [a.ring]
  refine actPop_ok fun w1 o1 _ h1 => ⟨_, rfl, nn_some ?_⟩
  have a1 := a.only0 o1
  simp only [addr_add, Nat.add_zero, Nat.zero_add]
  refine st_act a1 hk h1 rfl (a.t_new _ (Nat.le_refl _)) (Nat.le_refl _) (Stp.of0 o1) fun w2 d2 a2 s2 e1 e2 e3 _ => nn_some ?_
  simp only [addr_add, Nat.add_zero, Nat.zero_add]
  have tb2 : d2.tb = d.tb := s2.tb
  rw [← tb2]
  exact st_next a2 hk fun w3 a3 s3 _ => hK w3 d2 _ (s2.trans s3) e1 e3 a3

end Go.M

/- What the functions of the front do: join, wait, take, tell. -/
set_option linter.all false
set_option linter.constructorNameAsVariable false
set_option maxRecDepth 100000
namespace Go.M
open Go Go.Eng Go.RowKit

variable {w w' w1 w2 : World} {d d' d2 : FIds} {f f2 : FrontC} {K : Value → World → Prop} {k : Nat}

theorem stepA_r (r : RingM) (a : ActM) : (stepA r a).r = a.r := by
  simp only [stepA, ActM.ask, claimA, takeA]
  repeat' split
  all_goals rfl

def FrontC.sStep (f : FrontC) (k : Nat) : FrontC := { f with r := stepR f.r (f.av k), av := upd f.av k (stepA f.r (f.av k)) }

structure ActOk (f : FrontC) (k : Nat) : Prop where
  nn : f.h.act k ≠ none
  n : 0 < f.r.n ∧ f.r.n ≤ 64
  pl : 0 ≤ (f.av k).place
  at_ : 0 ≤ (f.av k).at_
  nx : 0 ≤ (f.av k).next ∧ (f.av k).next ≤ 4

theorem fact_ok (a : FAt w d f) (hk : k < f.h.n) (o : ActOk f k) (hK : ∀ w', Stp w w' d d → FAt w' d (f.sStep k) → K (.bool (decide ((stepA f.r (f.av k)).next = 5))) w') : CallsV P 115 #[.pointer (some ⟨d.ac k, 0, none⟩)] w K := by
  obtain ⟨h1, h2, h3, h4⟩ := a.act k hk o.nn
  refine actStep_ok a.ra h2 h3 (tag_ne h4 a.t_rb (by simp)) (tag_ne h4 a.t_sb (by simp)) o.n o.pl o.at_ o.nx fun w' ho hr ha => hK w' (Stp.of ho fun b hb => .inl ?_) (a.actTo hk o.nn ho hr ha (stepA_r _ _))
  simp only [List.mem_cons, List.not_mem_nil, or_false] at hb
  rcases hb with e | e | e <;> rw [e]
  · rw [h4]; simp
  · rw [a.t_rb]; simp
  · rw [a.t_sb]; simp

def Rs.zero : Rs := ⟨0, 0, 0, 0, 0⟩

theorem join_ok (a : FAt w d f) (hk : k < f.h.n) (o : ActOk f k) (hw : (stepA f.r (f.av k)).next = 5 → (stepA f.r (f.av k)).well = true)
    (hK : ∀ w', Stp w w' d d → FAt w' d (if (stepA f.r (f.av k)).next = 5 then (f.sStep k).sNext k 3 else f.sStep k) → K (.tuple #[Rs.zero.v, .bool false]) w') :
    CallsV P 68 #[.pointer (some ⟨d.fb, 0, none⟩), .pointer (some ⟨d.tb, k * 14, none⟩)] w K := by
  refine m_front_Front_join_ok ?_
  unfold m_front_Front_join
  refine al_intro (nn_some ?_)
  obtain ⟨w1, hw1⟩ : ∃ w1, w.alloc (.cells #[.int .u8 0, .int .u64 0, .int .i64 0, .int .i64 0, .int .i64 0] 42) = w1 := ⟨_, rfl⟩
  have o1 : Only [] w w1 := by rw [← hw1]; exact Only.alloc _ _
  have hr : RsAt w1 w.heap.size Rs.zero := by rw [← hw1]; exact rs_new w
  rw [hw1]
  have a1 := a.only0 o1
  have ht : d.tag w.heap.size = .other := a.t_new _ (Nat.le_refl _)
  simp only [addr_add, Nat.add_zero, Nat.zero_add]
  refine ld_ptr (a1.hd.c_act k hk) ?_
  rw [(a1.act k hk o.nn).1]
  refine fact_ok a1 hk o fun w2 s2 a2 => ⟨_, rfl, ?_⟩
  have hr2 := hr.stp s2 ht
  have s02 := (Stp.of0 o1).trans s2
  by_cases h5 : (stepA f.r (f.av k)).next = 5
  · simp only [if_pos h5] at hK
    refine if_no (by simp [h5]) (nn_some ?_)
    simp only [addr_add, Nat.add_zero, Nat.zero_add]
    refine ld_ptr (a2.hd.c_act k hk) ?_
    rw [(a2.act k hk o.nn).1]
    refine actOK_ok (a2.act k hk o.nn).2.1 ⟨_, rfl, if_yes ?_ (nn_some ?_)⟩
    · show (upd f.av k (stepA f.r (f.av k)) k).well = true
      rw [upd_same]; exact hw h5
    · simp only [addr_add, Nat.add_zero, Nat.zero_add]
      exact st_next a2 hk fun w3 a3 s3 _ => ans_ok (r := Rs.zero) a3 (hr2.stp s3 ht) ht fun w4 a4 _ o4 _ => hK w4 (stp_ans (s02.trans s3) (Nat.le_refl _) o4) a4
  · simp only [if_neg h5] at hK
    refine if_yes (by simp [h5]) ?_
    exact ans_ok (r := Rs.zero) a2 hr2 ht fun w4 a4 _ o4 _ => hK w4 (stp_ans s02 (Nat.le_refl _) o4) a4

def FrontC.sBox (f : FrontC) (k : Nat) (b : BoxM) : FrontC := { f with bs := upd f.bs k b }

theorem Stp.box (a : FAt w d f) (hk : k < f.h.n) (ho : Only [d.bx k] w w') : Stp w w' d d := Stp.of ho fun b hb => .inl (by rw [List.mem_singleton.1 hb, a.t_bx k hk]; simp)

theorem wait_ok (a : FAt w d f) (hk : k < f.h.n) (hs : 0 ≤ (f.bs k).state ∧ (f.bs k).state ≤ 2)
    (h1 : (f.bs k).state ≠ 2 → ∀ w', Stp w w' d d → FAt w' d (f.sNext k 4) → K (.tuple #[Rs.zero.v, .bool false]) w')
    (h2 : (f.bs k).state = 2 → ∀ w', Stp w w' d d → FAt w' d (((f.sBox k { f.bs k with state := 0 }).sNext k 4).sNext k 0) → K (.tuple #[(f.bs k).res.v, .bool true]) w') :
    CallsV P 69 #[.pointer (some ⟨d.fb, 0, none⟩), .pointer (some ⟨d.tb, k * 14, none⟩)] w K := by
  refine m_front_Front_wait_ok ?_
  unfold m_front_Front_wait
  refine al_intro (nn_some ?_)
  obtain ⟨w1, hw1⟩ : ∃ w1, w.alloc (.cells #[.int .u8 0, .int .u64 0, .int .i64 0, .int .i64 0, .int .i64 0] 42) = w1 := ⟨_, rfl⟩
  have o1 : Only [] w w1 := by rw [← hw1]; exact Only.alloc _ _
  have hr : RsAt w1 w.heap.size Rs.zero := by rw [← hw1]; exact rs_new w
  rw [hw1]
  have a1 := a.only0 o1
  have ht : d.tag w.heap.size = .other := a.t_new _ (Nat.le_refl _)
  simp only [addr_add, Nat.add_zero, Nat.zero_add]
  refine ld_ptr (a1.hd.c_box k hk) ?_
  rw [(a1.box k hk).1]
  by_cases e2 : (f.bs k).state = 2
  · refine collect_yes (a1.box k hk).2 e2 fun w2 o2 b2 => ⟨_, _, _, _, _, _, rfl, al_intro ?_⟩
    have s2 := Stp.box a1 hk o2
    have a2 : FAt w2 d (f.sBox k { f.bs k with state := 0 }) := a1.boxTo hk o2 b2
    have hr2 := hr.stp s2 ht
    obtain ⟨w3, hw3⟩ : ∃ w3, w2.alloc (.cells #[.int .u8 0, .int .u64 0, .int .i64 0, .int .i64 0, .int .i64 0] 42) = w3 := ⟨_, rfl⟩
    have o3 : Only [] w2 w3 := by rw [← hw3]; exact Only.alloc _ _
    have hq : RsAt w3 w2.heap.size Rs.zero := by rw [← hw3]; exact rs_new w2
    rw [hw3]
    have a3 := a2.only0 o3
    have hr3 := hr2.stp (Stp.of0 (d := d) o3) ht
    have ht2 : d.tag w2.heap.size = .other := a2.t_new _ (Nat.le_refl _)
    have sz : w.heap.size ≤ w2.heap.size := Nat.le_trans o1.size o2.size
    have sl : w.heap.size < w2.heap.size := Nat.lt_of_lt_of_le (cell_lt hr.c0) o2.size
    simp only [addr_add, Nat.add_zero, Nat.zero_add]
    refine rs_put hq (f.bs k).res fun w4 o4 hq4 => nn_some ?_
    have a4 := a3.only o4 fun b hb => .inl (by rw [List.mem_singleton.1 hb]; exact ht2)
    have s24 : Stp w w4 d d := stp_ans (((Stp.of0 o1).trans s2).trans (Stp.of0 o3)) sz o4
    have hr4 := hr3.only o4 (by simp only [List.mem_singleton]; omega)
    simp only [addr_add, Nat.add_zero, Nat.zero_add]
    refine st_next a4 hk fun w5 a5 s5 _ => if_yes trivial (nn_some ?_)
    simp only [addr_add, Nat.add_zero, Nat.zero_add]
    refine st_next a5 hk fun w6 a6 s6 _ => rs_get ((hq4.stp s5 ht2).stp s6 ht2) ?_
    exact ans_ok (r := (f.bs k).res) a6 ((hr4.stp s5 ht).stp s6 ht) ht fun w7 a7 _ o7 _ => h2 e2 w7 (stp_ans (s24.trans (s5.trans s6)) (Nat.le_refl _) o7) a7
  · refine collect_no (a1.box k hk).2 hs e2 fun w2 o2 => ⟨_, _, _, _, _, _, rfl, al_intro ?_⟩
    have s2 := Stp.of0 (d := d) o2
    have a2 := a1.only0 o2
    have hr2 := hr.stp s2 ht
    obtain ⟨w3, hw3⟩ : ∃ w3, w2.alloc (.cells #[.int .u8 0, .int .u64 0, .int .i64 0, .int .i64 0, .int .i64 0] 42) = w3 := ⟨_, rfl⟩
    have o3 : Only [] w2 w3 := by rw [← hw3]; exact Only.alloc _ _
    have hq : RsAt w3 w2.heap.size Rs.zero := by rw [← hw3]; exact rs_new w2
    rw [hw3]
    have a3 := a2.only0 o3
    have hr3 := hr2.stp (Stp.of0 (d := d) o3) ht
    have ht2 : d.tag w2.heap.size = .other := a2.t_new _ (Nat.le_refl _)
    have sz : w.heap.size ≤ w2.heap.size := Nat.le_trans o1.size o2.size
    have sl : w.heap.size < w2.heap.size := Nat.lt_of_lt_of_le (cell_lt hr.c0) o2.size
    simp only [addr_add, Nat.add_zero, Nat.zero_add]
    refine rs_put hq Rs.zero fun w4 o4 hq4 => nn_some ?_
    have a4 := a3.only o4 fun b hb => .inl (by rw [List.mem_singleton.1 hb]; exact ht2)
    have s24 : Stp w w4 d d := stp_ans (((Stp.of0 o1).trans s2).trans (Stp.of0 o3)) sz o4
    have hr4 := hr3.only o4 (by simp only [List.mem_singleton]; omega)
    simp only [addr_add, Nat.add_zero, Nat.zero_add]
    refine st_next a4 hk fun w5 a5 s5 _ => if_no (by simp) (rs_get (hq4.stp s5 ht2) ?_)
    exact ans_ok (r := Rs.zero) a5 (hr4.stp s5 ht) ht fun w7 a7 _ o7 _ => h1 e2 w7 (stp_ans (s24.trans s5) (Nat.le_refl _) o7) a7

theorem ftake_ok (a : FAt w d f) (hk : k < f.h.n) (o : ActOk f k) (hp : (stepA f.r (f.av k)).pops = true)
    (hK : ∀ w', Stp w w' d d → FAt w' d (if (stepA f.r (f.av k)).next = 5 then (if (stepA f.r (f.av k)).well = true then (((f.sStep k).sNext k 8).sWhose k (IntKind.wrap .i64 (stepA f.r (f.av k)).value)).sNext k 6 else (f.sStep k).sNext k 8) else f.sStep k) → K (.tuple #[]) w') :
    CallsV P 72 #[.pointer (some ⟨d.fb, 0, none⟩), .pointer (some ⟨d.tb, k * 14, none⟩)] w K := by
  refine m_front_Front_take_ok ?_
  unfold m_front_Front_take
  refine nn_some ?_
  simp only [addr_add, Nat.add_zero, Nat.zero_add]
  refine ld_ptr (a.hd.c_act k hk) ?_
  rw [(a.act k hk o.nn).1]
  refine fact_ok a hk o fun w2 s2 a2 => ⟨_, rfl, ?_⟩
  by_cases h5 : (stepA f.r (f.av k)).next = 5
  · simp only [if_pos h5] at hK
    refine if_no (by simp [h5]) (nn_some ?_)
    simp only [addr_add, Nat.add_zero, Nat.zero_add]
    refine st_next a2 hk fun w3 a3 s3 _ => nn_some ?_
    simp only [addr_add, Nat.add_zero, Nat.zero_add]
    refine ld_ptr (a3.hd.c_act k hk) ?_
    rw [(a3.act k hk o.nn).1]
    have ea : ((f.sStep k).sNext k 8).av k = stepA f.r (f.av k) := upd_same ..
    refine actOK_ok (a3.act k hk o.nn).2.1 ⟨_, rfl, ?_⟩
    rw [ea]
    by_cases hw : (stepA f.r (f.av k)).well = true
    · simp only [if_pos hw] at hK
      refine if_yes hw (nn_some ?_)
      simp only [addr_add, Nat.add_zero, Nat.zero_add]
      refine ld_ptr (a3.hd.c_act k hk) ?_
      rw [(a3.act k hk o.nn).1]
      refine value_ok (a3.act k hk o.nn).2.1 (by rw [ea]; exact hp) (by rw [ea]; exact hw) ⟨_, rfl, nn_some ?_⟩
      rw [ea]
      simp only [addr_add, Nat.add_zero, Nat.zero_add]
      refine st_whose a3 hk fun w4 a4 s4 _ => nn_some ?_
      simp only [addr_add, Nat.add_zero, Nat.zero_add]
      exact st_next a4 hk fun w5 a5 s5 _ => hK w5 (((s2.trans s3).trans s4).trans s5) a5
    · simp only [if_neg hw] at hK
      exact if_no hw (hK w3 (s2.trans s3) a3)
  · simp only [if_neg h5] at hK
    exact if_yes (by simp [h5]) (hK w2 s2 a2)

def FrontC.res (f : FrontC) (k : Nat) : Rs := ⟨f.h.answer k, f.h.ticket k, f.h.rtier k, f.h.rcohort k, f.h.sojourn k⟩

theorem tell_ok (a : FAt w d f) (hk : k < f.h.n) {j : Nat} (hj : f.h.whose k = j) (hjn : j < f.h.n) (hs : (f.bs j).state = 1) {l : Int} (hl : IntKind.wrap .i64 (f.h.left k - 1) = l)
    (h1 : 0 < l → ∀ w' d' b, Stp w w' d d' → d'.c = d.c → FAt w' d' ((((f.sBox j ((f.bs j).finish (f.res k))).sLeft k l).sAct k b (ActM.pop (some ⟨d.rb, 0, none⟩))).sNext k 5) → K (.tuple #[]) w')
    (h2 : ¬ 0 < l → ∀ w', Stp w w' d d → FAt w' d (((f.sBox j ((f.bs j).finish (f.res k))).sLeft k l).sNext k 8) → K (.tuple #[]) w') :
    CallsV P 74 #[.pointer (some ⟨d.fb, 0, none⟩), .pointer (some ⟨d.tb, k * 14, none⟩)] w K := by
  refine m_front_Front_tell_ok ?_
  unfold m_front_Front_tell
  have o0 : Only [] w w.drew := Only.drew w
  have a0 := a.only0 o0
  refine nn_some ?_
  simp only [addr_add, Nat.add_zero, Nat.zero_add]
  refine ld_slice a0.hd.h_ths (nn_some ?_)
  simp only [addr_add, Nat.add_zero, Nat.zero_add]
  refine ld_int (a0.hd.c_whose k hk) ?_
  rw [hj]
  refine ix_nat hjn ?_
  simp only [addr_add, Nat.add_zero, Nat.zero_add, Int.toNat_natCast]
  refine ld_ptr (a0.hd.c_box j hjn) (nn_some ?_)
  rw [(a0.box j hjn).1]
  simp only [addr_add, Nat.add_zero, Nat.zero_add]
  refine ld_int (a0.hd.c_answer k hk) (ld_int (a0.hd.c_ticket k hk) (ld_int (a0.hd.c_rtier k hk) (ld_int (a0.hd.c_rcohort k hk) (ld_int (a0.hd.c_sojourn k hk) ?_))))
  refine finish_ok (r := f.res k) (a0.box j hjn).2 hs fun w2 o2 b2 => ⟨_, rfl, nn_some ?_⟩
  have a2 : FAt w2 d (f.sBox j ((f.bs j).finish (f.res k))) := a0.boxTo hjn o2 b2
  have s2 := (Stp.of0 (d := d) o0).trans (Stp.box a0 hjn o2)
  simp only [addr_add, Nat.add_zero, Nat.zero_add]
  refine ld_int (a2.hd.c_left k hk) (nn_some ?_)
  show St _ (.int .i64 (IntKind.wrap .i64 (f.h.left k - 1))) _ _
  rw [hl]
  simp only [addr_add, Nat.add_zero, Nat.zero_add]
  refine st_left a2 hk fun w3 a3 s3 _ => nn_some ?_
  simp only [addr_add, Nat.add_zero, Nat.zero_add]
  refine ld_int (a3.hd.c_left k hk) ?_
  have el : ((f.sBox j ((f.bs j).finish (f.res k))).sLeft k l).h.left k = l := upd_same ..
  rw [el]
  by_cases h0 : 0 < l
  · refine if_yes (by simpa using h0) ?_
    exact takes_ok a3 hk fun w4 d4 b s4 e1 _ a4 => ⟨rfl, h1 h0 w4 d4 b ((s2.trans s3).trans s4) e1 a4⟩
  · refine if_no (by simpa using h0) (nn_some ?_)
    simp only [addr_add, Nat.add_zero, Nat.zero_add]
    exact st_next a3 hk fun w4 a4 s4 _ => h2 h0 w4 ((s2.trans s3).trans s4) a4

end Go.M
