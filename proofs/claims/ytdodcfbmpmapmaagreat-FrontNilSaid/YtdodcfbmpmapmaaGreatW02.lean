/- Proofs about the front of the overload controller, part 2: EngC Eng8 Eng9 Eng14 EngS. -/
import Derived.Test.YtdodcfbmpmapmaaGreatW01
import Derived.ScopeJumps
set_option linter.all false
set_option linter.constructorNameAsVariable false
set_option linter.unusedVariables false
/- The engine, part C: regions that draw: what is read off the text holds. -/
namespace Go.Eng
open Go Go.RowKit

variable {P : Program} {C : Tell}

theorem getD_both' {listed : Array Bool} {i : Nat} (h : listed.getD i true = false) : listed.getD i false = false := by
  rcases Nat.lt_or_ge i listed.size with h' | h'
  · simp [h'] at h ⊢; exact h
  · simp [Array.getElem?_eq_none h'] at h
theorem getD_in' {listed : Array Bool} {i : Nat} (h' : i < listed.size) (h : listed.getD i false = false) : listed.getD i true = false := by
  simp [h'] at h ⊢
  exact h
theorem getD_set_self {listed : Array Bool} {i : Nat} (h : i < listed.size) : (listed.setIfInBounds i true).getD i false = true := by
  rw [Array.getD_eq_getD_getElem?]
  simp [h]

/-- where the text stands, and where the run does -/
structure Inv (ds : List Deferred) (C : Tell) (P : Program) (ops : List Oper) (L : List Bool) (e : Env) (w : World) (gp : Bool) (rs : List Rd) (La : Array Bool) (rem : List Pend) (a : Act) (wa : World) : Prop where
  size : La.size = ops.length
  len : L.length = ops.length
  sub : ∀ i, La.getD i false = true → bit L i = true
  mem : ∀ x ∈ rem, ops[x.i]? = some x.o ∧ bit L x.i = true ∧ La.getD x.i false = false
  all : ∀ i, bit L i = true → La.getD i false = false → ∃ x ∈ rem, x.i = i
  nodup : rem.Pairwise fun x y => x.i ≠ y.i
  dep : DepOrd La rem
  depL : ∀ i o, bit L i = true → ops[i]? = some o → ∀ d ∈ o.after, Region.binds .any d = true → bit L d.on = true
  chain : Chain P ops.toArray rem a
  st : ∀ x ∈ rem, x.st wa ∧ ∀ w1 w2, x.st w1 → Below w1.heap.size w1 w2 → x.st w2
  rd : ∀ x ∈ rem, (x.q = false ∧ ∀ w, x.st w) ∨ ((⟨x.i, x.st, x.q⟩ : Rd) ∈ rs ∧ isRd C x.o = true)
  before : ∀ r o, ops[r]? = some o → isRd C o = true → La.getD r false = false → ∀ j, La.getD j false = true → uOf ops r j = true
  grown : Gr gp w wa
  call : ∀ x ∈ rem, x.q = true → gp = true
  stands : Stands ds e (putAll rem a)

section
variable {lr : Option Nat} {ds : List Deferred} {ops : List Oper} {L : List Bool} {e : Env} {w : World} {gp : Bool} {rs : List Rd} {La : Array Bool} {rem : List Pend} {a : Act} {wa : World} {Q : Exit → Act → World → Prop}

/-- what may be done next is one that stands out, or one that the text does now -/
theorem Inv.ready (h : Inv ds C P ops L e w gp rs La rem a wa) {i : Nat} (hi : i ∈ Region.ready .any ops.toArray La) :
    (∃ x ∈ rem, x.i = i) ∨ (bit L i = false ∧ ∃ o, ops[i]? = some o ∧ allOn o (bit L) = true ∧ ∀ d ∈ o.after, Region.binds .any d = true → La.getD d.on false = true) := by
  obtain ⟨h0, o, ho, hall⟩ := mem_ready.1 hi
  cases hb : bit L i with
  | true => exact .inl (h.all i hb (getD_both' h0))
  | false => exact .inr ⟨rfl, o, by simpa using ho, allOn_spec.2 fun d hd hbd => h.sub _ (hall d hd hbd), hall⟩

theorem Inv.done (h : Inv ds C P ops L e w gp rs La rem a wa) (hr : Region.ready .any ops.toArray La = []) : rem = [] ∧ readyB L ops 0 = [] := by
  have h1 : rem = [] := by
    match rem, h with
    | [], _ => rfl
    | x :: l, h =>
      exfalso
      have hm := h.mem x (List.mem_cons_self ..)
      have hlt : x.i < La.size := by rw [h.size]; exact (List.getElem?_eq_some_iff.1 hm.1).1
      have : x.i ∈ Region.ready .any ops.toArray La := mem_ready.2 ⟨getD_in' hlt hm.2.2, x.o, by simpa using hm.1, h.dep.1⟩
      rw [hr] at this
      cases this
  subst h1
  refine ⟨rfl, ?_⟩
  match hrb : readyB L ops 0 with
  | [] => rfl
  | (i, o) :: l =>
    exfalso
    obtain ⟨h1, h2, n, h3, h4⟩ := readyB_mem (L := L) (ops := ops) (i := 0) (j := i) (o := o) (by rw [hrb]; exact List.mem_cons_self ..)
    rw [Nat.zero_add] at h3
    subst h3
    have hlt : i < La.size := by rw [h.size]; exact (List.getElem?_eq_some_iff.1 h4).1
    have hno : La.getD i false = false := by
      cases hb : La.getD i false with
      | false => rfl
      | true => rw [h.sub i hb] at h1; cases h1
    have : i ∈ Region.ready .any ops.toArray La := mem_ready.2 ⟨getD_in' hlt hno, o, by simpa using h4, fun d hd hbd => by
      have hdl := allOn_spec.1 h2 d hd hbd
      cases hb : La.getD d.on false with
      | true => rfl
      | false => obtain ⟨x, hx, _⟩ := h.all _ hdl hb; cases hx⟩
    rw [hr] at this
    cases this

/-- the text goes on by one that leaves alone what is there -/
theorem Inv.add (h : Inv ds C P ops L e w gp rs La rem a wa) {x : Pend} {e' : Env} {gp' : Bool} {rs' : List Rd}
    (ho : ops[x.i]? = some x.o) (hb : bit L x.i = false) (hall : allOn x.o (bit L) = true) (hy : Yr P ops.toArray x (putAll rem a))
    (hst : x.st w) (hcl : ∀ w1 w2, x.st w1 → Below w1.heap.size w1 w2 → x.st w2) (hgp : gp = true → gp' = true) (hq : x.q = true → gp' = true)
    (hrs : ∀ r ∈ rs, r ∈ rs') (hrd : (x.q = false ∧ ∀ w, x.st w) ∨ ((⟨x.i, x.st, x.q⟩ : Rd) ∈ rs' ∧ isRd C x.o = true))
    (hs : Stands ds e' ((putAll rem a).put x.o.dst x.v)) :
    Inv ds C P ops (setB L x.i) e' w gp' rs' La (rem ++ [x]) a wa := by
  have hlt : x.i < L.length := by rw [h.len]; exact (List.getElem?_eq_some_iff.1 ho).1
  have hbs : ∀ j, bit (setB L x.i) j = true ↔ j = x.i ∨ bit L j = true := by
    intro j
    rw [bit_setB]
    by_cases hj : x.i = j
    · subst hj; simp [hlt]
    · simp [hj, Ne.symm hj]
  have hno : La.getD x.i false = false := by
    cases hb' : La.getD x.i false with
    | false => rfl
    | true => rw [h.sub _ hb'] at hb; cases hb
  have hne : ∀ y ∈ rem, y.i ≠ x.i := fun y hy' hc => by
    have := (h.mem y hy').2.1
    rw [hc, hb] at this
    cases this
  have hgr : Gr gp' w wa := by
    have := h.grown
    unfold Gr at *
    split at this
    · rename_i hg; rw [if_pos (hgp hg)]; exact this
    · split
      · rw [this]; exact Below.refl _ _
      · exact this
  refine ⟨h.size, by rw [setB_length]; exact h.len, fun i hi => (hbs i).2 (.inr (h.sub i hi)), fun y hy' => ?_, fun i hi hl => ?_, ?_, ?_, ?_, h.chain.snoc hy, fun y hy' => ?_, fun y hy' => ?_, h.before, hgr, fun y hy' hyq => ?_, by rw [putAll_append]; exact hs⟩
  · rcases List.mem_append.1 hy' with hy' | hy'
    · have := h.mem y hy'
      exact ⟨this.1, (hbs _).2 (.inr this.2.1), this.2.2⟩
    · rw [List.mem_singleton] at hy'
      subst hy'
      exact ⟨ho, (hbs _).2 (.inl rfl), hno⟩
  · rcases (hbs i).1 hi with hi | hi
    · subst hi; exact ⟨x, by simp, rfl⟩
    · obtain ⟨y, hy', hyi⟩ := h.all i hi hl
      exact ⟨y, by simp [hy'], hyi⟩
  · rw [List.pairwise_append]
    exact ⟨h.nodup, List.pairwise_singleton _ _, fun y hy' z hz => by rw [List.mem_singleton] at hz; subst hz; exact hne y hy'⟩
  · refine h.dep.snoc (fun y hy' => by rw [h.size]; exact (List.getElem?_eq_some_iff.1 (h.mem y hy').1).1) fun d hd hbd => ?_
    have hdl := allOn_spec.1 hall d hd hbd
    cases hb' : La.getD d.on false with
    | true => exact .inl rfl
    | false => exact .inr (h.all _ hdl hb')
  · intro i o hi hio d hd hbd
    rcases (hbs i).1 hi with hi | hi
    · subst hi
      rw [ho] at hio
      cases hio
      exact (hbs _).2 (.inr (allOn_spec.1 hall d hd hbd))
    · exact (hbs _).2 (.inr (h.depL i o hi hio d hd hbd))
  · rcases List.mem_append.1 hy' with hy' | hy'
    · exact h.st y hy'
    · rw [List.mem_singleton] at hy'
      subst hy'
      refine ⟨?_, hcl⟩
      have := h.grown
      unfold Gr at this
      split at this
      · exact hcl _ _ hst this
      · rw [this]; exact hst
  · rcases List.mem_append.1 hy' with hy' | hy'
    · rcases h.rd y hy' with h1 | ⟨h1, h2⟩
      · exact .inl h1
      · exact .inr ⟨hrs _ h1, h2⟩
    · rw [List.mem_singleton] at hy'
      subst hy'
      exact hrd
  · rcases List.mem_append.1 hy' with hy' | hy'
    · exact hgp (h.call y hy' hyq)
    · rw [List.mem_singleton] at hy'
      subst hy'
      exact hq hyq

theorem Inv.before_set (hD : DrawOk C ops) (h : Inv ds C P ops L e w gp rs La rem a wa) {i : Nat} {o : Oper} (ho : ops[i]? = some o) (hdep : ∀ d ∈ o.after, Region.binds .any d = true → La.getD d.on false = true) :
    ∀ r o, ops[r]? = some o → isRd C o = true → (La.setIfInBounds i true).getD r false = false → ∀ j, (La.setIfInBounds i true).getD j false = true → uOf ops r j = true := by
  intro r o' hr hrd hn j hj
  have hlt : i < La.size := by rw [h.size]; exact (List.getElem?_eq_some_iff.1 ho).1
  have hir : i ≠ r := fun hc => by subst hc; rw [getD_set_self hlt] at hn; cases hn
  rw [getD_set_ne false hir] at hn
  by_cases hij : i = j
  · subst hij
    exact hD.uClosed r i o o' hr hrd ho hir fun d hd hbd => h.before r o' hr hrd hn _ (hdep d hd hbd)
  · rw [getD_set_ne false hij] at hj
    exact h.before r o' hr hrd hn j hj

/-- one that stands out is done -/
theorem Inv.pull (hD : DrawOk C ops) {l1 l2 : List Pend} {x : Pend} (h : Inv ds C P ops L e w gp rs La (l1 ++ x :: l2) a wa) (hi : x.i ∈ Region.ready .any ops.toArray La)
    {K : Act → World → Prop} (hK : ∀ wa', Inv ds C P ops L e w gp rs (La.setIfInBounds x.i true) (l1 ++ l2) (a.put x.o.dst x.v) wa' → K (a.put x.o.dst x.v) wa') :
    wpOpIn (Fr lr) 0 P ops.toArray Q x.i K a wa := by
  have hm := h.mem x (by simp)
  have hlt : x.i < La.size := by rw [h.size]; exact (List.getElem?_eq_some_iff.1 hm.1).1
  obtain ⟨_, o, ho, hdep⟩ := mem_ready.1 hi
  have ho' : o = x.o := by
    have : ops[x.i]? = some o := by simpa using ho
    rw [hm.1] at this
    exact (Option.some.inj this).symm
  subst ho'
  have hnd := h.nodup
  rw [List.pairwise_append] at hnd
  have hne1 : ∀ y ∈ l1, y.i ≠ x.i := fun y hy => hnd.2.2 y hy x (List.mem_cons_self ..)
  have hne2 : ∀ y ∈ l2, y.i ≠ x.i := fun y hy => Ne.symm ((List.pairwise_cons.1 hnd.2.1).1 y hy)
  have hne : ∀ y ∈ l1 ++ l2, y.i ≠ x.i := fun y hy => by
    rcases List.mem_append.1 hy with hy | hy
    · exact hne1 y hy
    · exact hne2 y hy
  have hsub : ∀ y ∈ l1 ++ l2, y ∈ l1 ++ x :: l2 := by
    intro y hy
    simp only [List.mem_append, List.mem_cons] at hy ⊢
    rcases hy with hy | hy
    · exact .inl hy
    · exact .inr (.inr hy)
  have hap : ∀ y ∈ l1, y.o.apart ops.toArray x.o = true ∧ noSel y.o := by
    intro y hy
    have hym := h.mem y (by simp [hy])
    refine ⟨?_, hD.sel _ _ hym.1⟩
    rcases hD.pairs y.i x.i _ _ hym.1 hm.1 (hne1 y hy) with h1 | h1 | h1
    · exact h1
    · exfalso
      unfold waits at h1
      have hyo : ops.toArray[y.i]? = some y.o := by simpa using hym.1
      rw [hyo] at h1
      obtain ⟨d, hd, hb⟩ := Array.any_eq_true'.1 h1
      simp only [Bool.and_eq_true, beq_iff_eq] at hb
      obtain ⟨l3, l4, hl⟩ := List.append_of_mem hy
      have hdo := h.dep
      rw [hl, List.append_assoc] at hdo
      rcases DepOrd.deps hdo d hd hb.1 with h2 | ⟨z, hz, hzd⟩
      · rw [hb.2, hm.2.2] at h2; cases h2
      · exact hne1 z (by rw [hl]; simp [hz]) (by rw [hzd, hb.2])
    · exfalso
      unfold waits at h1
      rw [ho] at h1
      obtain ⟨d, hd, hb⟩ := Array.any_eq_true'.1 h1
      simp only [Bool.and_eq_true, beq_iff_eq] at hb
      have := hdep d hd hb.1
      rw [hb.2, hym.2.2] at this
      cases this
  obtain ⟨p1, p2, p3⟩ := Chain.pull l1 hap (hD.sel _ _ hm.1) h.chain
  refine p1.wpOp ho (h.st x (by simp)).1 fun w2 hw2 => hK w2 ?_
  have hgr2 : Below wa.heap.size wa w2 := by
    split at hw2
    · exact hw2
    · rw [hw2]; exact Below.refl _ _
  refine ⟨by simpa using h.size, h.len, fun i hi' => ?_, fun y hy => ?_, fun i hi' hl => ?_, ?_, h.dep.pull l1 hne1, h.depL, p2, fun y hy => ?_, fun y hy => h.rd y (hsub y hy), h.before_set hD hm.1 hdep, ?_, fun y hy => h.call y (hsub y hy), by rw [← p3]; exact h.stands⟩
  · by_cases hix : x.i = i
    · subst hix; exact hm.2.1
    · rw [getD_set_ne false hix] at hi'; exact h.sub i hi'
  · have hym := h.mem y (hsub y hy)
    exact ⟨hym.1, hym.2.1, by rw [getD_set_ne false (Ne.symm (hne y hy))]; exact hym.2.2⟩
  · by_cases hix : x.i = i
    · subst hix; rw [getD_set_self hlt] at hl; cases hl
    · rw [getD_set_ne false hix] at hl
      obtain ⟨y, hy, hyi⟩ := h.all i hi' hl
      refine ⟨y, ?_, hyi⟩
      simp only [List.mem_append, List.mem_cons] at hy ⊢
      rcases hy with hy | hy | hy
      · exact .inl hy
      · subst hy; exact absurd hyi hix
      · exact .inr hy
  · rw [List.pairwise_append]
    exact ⟨hnd.1, (List.pairwise_cons.1 hnd.2.1).2, fun y hy z hz => hnd.2.2 y hy z (List.mem_cons_of_mem _ hz)⟩
  · have := h.st y (hsub y hy)
    exact ⟨this.2 _ _ this.1 hgr2, this.2⟩
  · have hg := h.grown
    unfold Gr at hg ⊢
    split at hg
    · rename_i hgp
      rw [if_pos hgp]
      exact hg.trans (hgr2.mono hg.size)
    · rename_i hgp
      rw [if_neg hgp]
      split at hw2
      · rename_i hxq; exact absurd (h.call x (by simp) hxq) hgp
      · rw [hw2, hg]

/-- the text goes on by any operation -/
theorem Inv.step (hD : DrawOk C ops) (h : Inv ds C P ops L e w gp rs La rem a wa) {i : Nat} {o : Oper} (ho : ops[i]? = some o) (hb : bit L i = false) (hall : allOn o (bit L) = true)
    (hdep : ∀ d ∈ o.after, Region.binds .any d = true → La.getD d.on false = true) {v : Value} {e' : Env} {w' : World} (hs : Stands ds e' ((putAll rem a).put o.dst v))
    (hk : ∀ r ∈ rs, uOf ops r.i i = true → ∀ x ∈ rem, r = ⟨x.i, x.st, x.q⟩ → r.st w') :
    Inv ds C P ops (setB L i) e' w' ((stays ops i rs).any (·.q)) (stays ops i rs) (La.setIfInBounds i true) rem (a.put o.dst v) w' ∧
      (∀ x ∈ rem, x.o.apart ops.toArray o = true) := by
  have hlt : i < L.length := by rw [h.len]; exact (List.getElem?_eq_some_iff.1 ho).1
  have hlt' : i < La.size := by rw [h.size, ← h.len]; exact hlt
  have hbs : ∀ j, bit (setB L i) j = true ↔ j = i ∨ bit L j = true := by
    intro j
    rw [bit_setB]
    by_cases hj : i = j
    · subst hj; simp [hlt]
    · simp [hj, Ne.symm hj]
  have hne : ∀ x ∈ rem, x.i ≠ i := fun x hx hc => by
    have := (h.mem x hx).2.1
    rw [hc, hb] at this
    cases this
  have hap : ∀ x ∈ rem, x.o.apart ops.toArray o = true := by
    intro x hx
    have hm := h.mem x hx
    rcases hD.pairs x.i i _ _ hm.1 ho (hne x hx) with h1 | h1 | h1
    · exact h1
    · exfalso
      unfold waits at h1
      have hxo : ops.toArray[x.i]? = some x.o := by simpa using hm.1
      rw [hxo] at h1
      obtain ⟨d, hd, hbd⟩ := Array.any_eq_true'.1 h1
      simp only [Bool.and_eq_true, beq_iff_eq] at hbd
      have := h.depL _ _ hm.2.1 hm.1 d hd hbd.1
      rw [hbd.2, hb] at this
      cases this
    · exfalso
      unfold waits at h1
      have hio : ops.toArray[i]? = some o := by simpa using ho
      rw [hio] at h1
      obtain ⟨d, hd, hbd⟩ := Array.any_eq_true'.1 h1
      simp only [Bool.and_eq_true, beq_iff_eq] at hbd
      have := hdep d hd hbd.1
      rw [hbd.2, hm.2.2] at this
      cases this
  have hbef := h.before_set hD ho hdep
  have hun : ∀ x ∈ rem, isRd C x.o = true → uOf ops x.i i = true := fun x hx hrd =>
    hbef x.i x.o (h.mem x hx).1 hrd (by rw [getD_set_ne false (Ne.symm (hne x hx))]; exact (h.mem x hx).2.2) i (getD_set_self hlt')
  have hstay : ∀ x ∈ rem, (⟨x.i, x.st, x.q⟩ : Rd) ∈ rs → isRd C x.o = true → (⟨x.i, x.st, x.q⟩ : Rd) ∈ stays ops i rs := fun x hx h1 h2 => by
    unfold stays
    rw [List.mem_filter]
    exact ⟨h1, hun x hx h2⟩
  refine ⟨⟨by simpa using h.size, by rw [setB_length]; exact h.len, fun j hj => ?_, fun x hx => ?_, fun j hj hl => ?_, h.nodup, ?_, fun j o' hj hjo d hd hbd => ?_,
    h.chain.put fun x hx => ⟨hap x hx, hD.sel _ _ (h.mem x hx).1⟩, fun x hx => ?_, fun x hx => ?_, hbef, Gr.refl _ _, fun x hx hxq => ?_, by rw [putAll_put hap]; exact hs⟩, hap⟩
  · by_cases hij : i = j
    · subst hij; exact (hbs _).2 (.inl rfl)
    · rw [getD_set_ne false hij] at hj; exact (hbs _).2 (.inr (h.sub j hj))
  · have hm := h.mem x hx
    exact ⟨hm.1, (hbs _).2 (.inr hm.2.1), by rw [getD_set_ne false (Ne.symm (hne x hx))]; exact hm.2.2⟩
  · by_cases hij : i = j
    · subst hij; rw [getD_set_self hlt'] at hl; cases hl
    · rw [getD_set_ne false hij] at hl
      rcases (hbs j).1 hj with hj | hj
      · exact absurd hj.symm hij
      · exact h.all j hj hl
  · refine h.dep.mono (by simp) fun j hj => ?_
    by_cases hij : i = j
    · subst hij; exact getD_set_self hlt'
    · rw [getD_set_ne false hij]; exact hj
  · rcases (hbs j).1 hj with hj | hj
    · subst hj
      rw [ho] at hjo
      cases hjo
      exact (hbs _).2 (.inr (allOn_spec.1 hall d hd hbd))
    · exact (hbs _).2 (.inr (h.depL j o' hj hjo d hd hbd))
  · refine ⟨?_, (h.st x hx).2⟩
    rcases h.rd x hx with h1 | ⟨h1, h2⟩
    · exact h1.2 _
    · exact hk _ h1 (hun x hx h2) x hx rfl
  · rcases h.rd x hx with h1 | ⟨h1, h2⟩
    · exact .inl h1
    · exact .inr ⟨hstay x hx h1 h2, h2⟩
  · rcases h.rd x hx with h1 | ⟨h1, h2⟩
    · rw [h1.1] at hxq; cases hxq
    · rw [List.any_eq_true]
      exact ⟨_, hstay x hx h1 h2, hxq⟩

theorem gen_sound (hW : World2 P C) (hD : DrawOk C ops) {k : Env → World → Prop} (hQ : ∀ e a w, Stands ds e a → k e w → Q .normal a w) :
    ∀ (m : Nat) (L : List Bool) (e : Env) (w : World) (gp : Bool) (rs : List Rd), evGen C P ops m L e w gp rs k →
      ∀ (La : Array Bool) (rem : List Pend) (a : Act) (wa : World), Inv ds C P ops L e w gp rs La rem a wa → wpAnyIn (Fr lr) 0 P .any ops.toArray Q (rem.length + un L) La a wa := by
  intro m
  induction m with
  | zero => intro L e w gp rs h; exact h.elim
  | succ m ih =>
    intro L e w gp rs h
    unfold evGen at h
    split at h
    · -- one that leaves alone what is there
      rename_i i o hf
      intro La rem a wa hI
      obtain ⟨hb, hqk, hall, n, hn, ho⟩ := firstQ_some hf
      rw [Nat.zero_add] at hn
      subst hn
      have hlt : i < L.length := by rw [hI.len]; exact (List.getElem?_eq_some_iff.1 ho).1
      obtain ⟨e', hfit, h⟩ := guarded_sound hI.stands.fits h
      have hun := un_setB hb hlt
      rcases h with ⟨hw, h⟩ | ⟨hw, h⟩
      · obtain ⟨v, st, h1, h2, h3, h4, h5, h6⟩ := evQ_sound hW hfit hqk h
        have := ih _ _ _ _ _ h1 La (rem ++ [⟨i, o, v, st, !pureOp o && isQCall C o⟩]) a wa
          (hI.add (x := ⟨i, o, v, st, !pureOp o && isQCall C o⟩) ho hb hall (.inl ⟨hw, h4, h5⟩) h2 h3 (fun hc => by simp [hc]) (fun hc => by simp only [Bool.or_eq_true]; exact .inr hc)
            (fun r hr => by split <;> simp [hr]) (by
              cases hp : pureOp o with
              | true => exact .inl ⟨by simp, h6 hp⟩
              | false =>
                refine .inr ⟨by simp, ?_⟩
                unfold isRd
                unfold quick at hqk
                rw [hp] at hqk ⊢
                simpa using hqk) (Stands.put ⟨hfit, hI.stands.defers⟩ o.dst v))
        simp only [List.length_append, List.length_cons, List.length_nil] at this
        rw [show rem.length + un L = rem.length + (0 + 1) + un (setB L i) by omega]
        exact this
      · have := ih _ _ _ _ _ h La (rem ++ [⟨i, o, undef, fun _ => True, false⟩]) a wa
          (hI.add (x := ⟨i, o, undef, fun _ => True, false⟩) ho hb hall (.inr ⟨hw, rfl⟩) trivial (fun _ _ _ _ => trivial) (fun hc => hc) (fun hc => by cases hc)
            (fun r hr => hr) (.inl ⟨rfl, fun _ => trivial⟩) (Stands.put ⟨hfit, hI.stands.defers⟩ o.dst undef))
        simp only [List.length_append, List.length_cons, List.length_nil] at this
        rw [show rem.length + un L = rem.length + (0 + 1) + un (setB L i) by omega]
        exact this
    · -- any other
      intro La rem
      generalize hnr : rem.length = nr
      intro a wa hI
      induction nr using Nat.strongRecOn generalizing La rem a wa with
      | _ nr ihr =>
        subst hnr
        have hend : Region.ready .any ops.toArray La = [] → Q .normal a wa := fun hr => by
          obtain ⟨h1, h2⟩ := hI.done hr
          subst h1
          rw [h2] at h
          exact hQ _ _ _ hI.stands (growK_get h hI.grown)
        have hstep : ∀ i ∈ Region.ready .any ops.toArray La, ∃ fuel, rem.length + un L = fuel + 1 ∧ wpOpIn (Fr lr) 0 P ops.toArray Q i (wpAnyIn (Fr lr) 0 P .any ops.toArray Q fuel (La.setIfInBounds i true)) a wa := by
          intro i hi
          rcases hI.ready hi with ⟨x, hx, hxi⟩ | ⟨hb, o, ho, hall, hdep⟩
          · subst hxi
            obtain ⟨l1, l2, hl⟩ := List.append_of_mem hx
            subst hl
            refine ⟨(l1 ++ l2).length + un L, by simp only [List.length_append, List.length_cons]; omega, hI.pull hD hi fun wa' hI' => ?_⟩
            exact ihr _ (by simp only [List.length_append, List.length_cons]; omega) _ _ rfl _ _ hI'
          · have hlt : i < L.length := by rw [hI.len]; exact (List.getElem?_eq_some_iff.1 ho).1
            have hun := un_setB hb hlt
            refine ⟨rem.length + un (setB L i), by omega, ?_⟩
            have hmem := mem_readyB (i := 0) ho (by rw [Nat.zero_add]; exact hb) hall
            rw [Nat.zero_add] at hmem
            have h' : growK gp w fun w => eachK (fun i o =>
                guarded ops o.guard e
                  (fun e => evOp C P o e w fun v w => keep ops i w (evGen C P ops m (setB L i) (putO e o.dst v) w ((stays ops i rs).any (·.q)) (stays ops i rs) k) rs)
                  (fun e => evGen C P ops m (setB L i) (putO e o.dst undef) w ((stays ops i rs).any (·.q)) (stays ops i rs) k)) (readyB L ops 0) := by
              split at h
              · rename_i hr; rw [hr] at hmem; cases hmem
              · rename_i x l hr; rw [hr]; exact h
            have h1 := eachK_get (growK_get h' hI.grown) _ hmem
            simp only at h1
            obtain ⟨e', hfit, h1⟩ := guarded_sound hI.stands.fits h1
            have hap0 := (hI.step hD ho hb hall hdep (v := undef) (e' := putO e' o.dst undef) (w' := wa) (Stands.put ⟨hfit, hI.stands.defers⟩ o.dst undef) (fun r _ _ x hx hrx => by subst hrx; exact (hI.st x hx).1)).2
            obtain ⟨hex, hwn⟩ := execOp_putAll (a := a) (o := o) hap0 (hD.sel _ _ ho)
            unfold wpOpIn
            have ho' : ops.toArray[i]? = some o := by simpa using ho
            rw [ho']
            simp only
            rw [← hwn]
            rcases h1 with ⟨hw, h1⟩ | ⟨hw, h1⟩
            · rw [if_pos hw]
              have hs := evOp_sound hW hfit h1
              have hs' : OpSound P o a wa fun v w => keep ops i w (evGen C P ops m (setB L i) (putO e' o.dst v) w ((stays ops i rs).any (·.q)) (stays ops i rs) k) rs := by
                unfold OpSound at hs ⊢
                rw [hex] at hs
                exact hs
              refine hs'.wp _ _ fun v w' hk => ?_
              obtain ⟨hk1, hk2⟩ := keep_spec hk
              exact ih _ _ _ _ _ hk1 _ rem _ _ (hI.step hD ho hb hall hdep (Stands.put ⟨hfit, hI.stands.defers⟩ o.dst v) fun r hr hu _ _ _ => hk2 r hr hu).1
            · rw [if_neg (by rw [hw]; simp)]
              exact ⟨fun _ _ => fr_fn, ih _ _ _ _ _ h1 _ rem _ _ (hI.step hD ho hb hall hdep (Stands.put ⟨hfit, hI.stands.defers⟩ o.dst undef) fun r _ _ x hx hrx => by subst hrx; exact (hI.st x hx).1).1⟩
        match hfu : rem.length + un L with
        | 0 =>
          refine ⟨?_, ?_⟩
          · match hr : Region.ready .any ops.toArray La with
            | [] => rfl
            | i :: l =>
              obtain ⟨f, hf, _⟩ := hstep i (by rw [hr]; exact List.mem_cons_self ..)
              omega
          · apply hend
            match hr : Region.ready .any ops.toArray La with
            | [] => rfl
            | i :: l =>
              obtain ⟨f, hf, _⟩ := hstep i (by rw [hr]; exact List.mem_cons_self ..)
              omega
        | fuel + 1 =>
          refine ⟨hend, fun i hi => ?_⟩
          obtain ⟨f, hf, hw⟩ := hstep i hi
          have : f = fuel := by omega
          subst this
          exact hw

end

/-- a region that draws -/
def evDraw (C : Tell) (P : Program) (ops : List Oper) (e : Env) (w : World) (k : Env → World → Prop) : Prop :=
  if checkDraw C ops = true then evGen C P ops (ops.length + 1) (List.replicate ops.length false) e w.drew false [] k else False

theorem un_replicate : ∀ n, un (List.replicate n false) = n
  | 0 => rfl
  | n + 1 => by simp only [List.replicate_succ, un, un_replicate n]; simp; omega

theorem bit_replicate : ∀ n i, bit (List.replicate n false) i = false
  | 0, _ => rfl
  | _ + 1, 0 => rfl
  | n + 1, i + 1 => by simp only [List.replicate_succ, bit]; exact bit_replicate n i

theorem draw_sound (hW : World2 P C) {lr : Option Nat} {ds : List Deferred} {id : Nat} {ops : Array Oper} {e : Env} {w : World} {k : Env → World → Prop} {a : Act} {Q : Exit → Act → World → Prop}
    (hs : Stands ds e a) (h : evDraw C P ops.toList e w k) (hQ : ∀ e a w, Stands ds e a → k e w → Q .normal a w) : WP lr P (Code.region id ops true) Q a w := by
  unfold evDraw at h
  split at h
  · rename_i hc
    have hD := checkDraw_spec hc
    refine wpIn_region_any hW.ok.mixed ?_
    have hf : ∀ i, (Array.replicate ops.size false).getD i false = false := by
      intro i
      rcases Nat.lt_or_ge i ops.size with h | h
      · simp [h]
      · simp [h]
    have hI : Inv ds C P ops.toList (List.replicate ops.toList.length false) e w.drew false [] (Array.replicate ops.size false) [] a w.drew := by
      refine ⟨by simp, by simp, fun i hi => ?_, fun x hx => ?_, fun i hi => ?_, List.Pairwise.nil, trivial, fun i o hi => ?_, trivial, fun x hx => ?_, fun x hx => ?_, fun r o _ _ _ j hj => ?_, Gr.refl _ _, fun x hx => ?_, hs⟩
      · rw [hf] at hi; cases hi
      · cases hx
      · rw [bit_replicate] at hi; cases hi
      · rw [bit_replicate] at hi; cases hi
      · cases hx
      · cases hx
      · rw [hf] at hj; cases hj
      · cases hx
    have := gen_sound (lr := lr) (Q := Q) hW hD hQ _ _ _ _ _ _ h _ _ _ _ hI
    rw [un_replicate] at this
    simpa using this
  · exact h.elim

end Go.Eng

/- The engine, part 8: code. -/
namespace Go.Eng
open Go Go.RowKit

variable {P : Program} {C : Tell}

abbrev Kont := Exit → Env → World → Prop

/-- a meaning of a piece of code over what is known of the slots, that holds -/
def Sound (P : Program) (c : Code) (E : Env → World → Kont → Prop) : Prop :=
  ∀ (lr : Option Nat) (ds : List Deferred) (e : Env) (w : World) (k : Kont), E e w k → ∀ a, Stands ds e a → ∀ Q : Exit → Act → World → Prop, (∀ x e a w, Stands ds e a → k x e w → Q x a w) → WP lr P c Q a w

/-- the meaning of loops, jumps and ranges over functions is handed in, by the place in the code -/
structure Orac where
  loop : Nat → Env → World → Kont → Prop
  cut : Nat → Option (Env → World → Kont → Prop)

def thenK (k : Kont) (n : Env → World → Prop) : Kont := fun x e w =>
  match x with
  | .normal => n e w
  | x => k x e w

def blockK (id : Nat) (k : Kont) : Kont := fun x e w =>
  match x with
  | .exit i => if i = id then k .normal e w else k (.exit i) e w
  | x => k x e w

def evCode (C : Tell) (P : Program) (O : Orac) : Code → Nat → Env → World → Kont → Prop
  | .skip, _, e, w, k => k .normal e w
  | .label _, _, e, w, k => k .normal e w
  | .region _ ops draw, _, e, w, k => if draw = true then evDraw C P ops.toList e w fun e w => k .normal e w else evOps C P ops.toList ops.toList e w fun e w => k .normal e w
  | .seq x y, p, e, w, k =>
    match O.cut p with
    | some E => evCode C P O x (2 * p) e w (thenK k fun e w => E e w k)
    | none => evCode C P O x (2 * p) e w (thenK k fun e w => evCode C P O y (2 * p + 1) e w k)
  | .cond c x y, p, e, w, k =>
    match eval e c with
    | some (.bool b) => if b = true then evCode C P O x (2 * p) e w k else evCode C P O y (2 * p + 1) e w k
    | _ => False
  | .block id c, p, e, w, k => evCode C P O c (2 * p) e w (blockK id k)
  | .loop _, p, e, w, k => O.loop p e w k
  | .rangeFunc .., p, e, w, k => O.loop p e w k
  | .scope _, p, e, w, k => O.loop p e w k
  | .exit id, _, e, w, k => k (.exit id) e w
  | .goto l, _, e, w, k => k (.goto l) e w
  | .ret, _, e, w, k => k .ret e w
  | .refuse _, _, _, _, _ => False

/-- what is to be shown of what was handed in -/
def Owed (P : Program) (O : Orac) : Code → Nat → Prop
  | .seq x y, p =>
    match O.cut p with
    | some E => Owed P O x (2 * p) ∧ Sound P y E
    | none => Owed P O x (2 * p) ∧ Owed P O y (2 * p + 1)
  | .cond _ x y, p => Owed P O x (2 * p) ∧ Owed P O y (2 * p + 1)
  | .block _ c, p => Owed P O c (2 * p)
  | .loop c, p => Sound P (.loop c) (O.loop p)
  | .rangeFunc f ps a b, p => Sound P (.rangeFunc f ps a b) (O.loop p)
  | .scope c, p => Sound P (.scope c) (O.loop p)
  | _, _ => True

theorem evCode_sound (hW : World2 P C) (O : Orac) : ∀ (c : Code) (p : Nat), Owed P O c p → Sound P c (evCode C P O c p) := by
  intro c
  induction c with
  | skip => intro p _ lr ds e w k h a hs Q hQ; exact wpIn_skip (hQ _ _ _ _ hs h)
  | label l => intro p _ lr ds e w k h a hs Q hQ; exact wpIn_label (hQ _ _ _ _ hs h)
  | ret => intro p _ lr ds e w k h a hs Q hQ; exact wpIn_ret (hQ _ _ _ _ hs h)
  | exit id => intro p _ lr ds e w k h a hs Q hQ; exact wpIn_exit (hQ _ _ _ _ hs h)
  | goto l => intro p _ lr ds e w k h a hs Q hQ; exact wpIn_goto (hQ _ _ _ _ hs h)
  | refuse why => intro p _ lr ds e w k h; exact h.elim
  | region id ops draw =>
    intro p ho lr ds e w k h a hs Q hQ
    simp only [evCode] at h
    split at h
    · rename_i hd
      have hd' : draw = true := hd
      subst hd'
      exact draw_sound hW hs h fun e a w hs h => hQ _ _ _ _ hs h
    · rename_i hd
      have hd' : draw = false := by simpa using hd
      subst hd'
      refine wpIn_region_list ?_
      have := evOps_sound hW (l := lr) (Q := Q) (ops := ops.toList) hs h (fun e a w hs h => hQ _ _ _ _ hs h)
      simpa using this
  | seq x y ihx ihy =>
    intro p ho lr ds e w k h a hs Q hQ
    simp only [Owed] at ho
    simp only [evCode] at h
    cases hc : O.cut p with
    | some E =>
      simp only [hc] at h ho
      refine wpIn_seq (ihx (2 * p) ho.1 _ _ _ _ _ h a hs _ fun x1 e1 a1 w1 hs1 h1 => ?_)
      cases x1 with
      | normal => exact ho.2 _ _ _ _ _ h1 a1 hs1 Q hQ
      | _ => exact hQ _ _ _ _ hs1 h1
    | none =>
      simp only [hc] at h ho
      refine wpIn_seq (ihx (2 * p) ho.1 _ _ _ _ _ h a hs _ fun x1 e1 a1 w1 hs1 h1 => ?_)
      cases x1 with
      | normal => exact ihy (2 * p + 1) ho.2 _ _ _ _ _ h1 a1 hs1 Q hQ
      | _ => exact hQ _ _ _ _ hs1 h1
  | cond c x y ihx ihy =>
    intro p ho lr ds e w k h a hs Q hQ
    simp only [Owed] at ho
    simp only [evCode] at h
    split at h
    · rename_i b hb
      have hc := eval_sound hs.fits hb
      split at h
      · rename_i hbt
        subst hbt
        exact wpIn_cond_true hc (ihx (2 * p) ho.1 _ _ _ _ _ h a hs Q hQ)
      · rename_i hbt
        have hbf : b = false := by simpa using hbt
        subst hbf
        exact wpIn_cond_false hc (ihy (2 * p + 1) ho.2 _ _ _ _ _ h a hs Q hQ)
    · exact h.elim
  | block id c ih =>
    intro p ho lr ds e w k h a hs Q hQ
    simp only [Owed] at ho
    simp only [evCode] at h
    refine wpIn_block (ih (2 * p) ho _ _ _ _ _ h a hs _ fun x1 e1 a1 w1 hs1 h1 => ?_)
    cases x1 with
    | exit i =>
      simp only [blockK] at h1
      simp only [Exit.inBlock]
      split at h1
      · rename_i hi; rw [if_pos hi]; exact hQ _ _ _ _ hs1 h1
      · rename_i hi; rw [if_neg hi]; exact hQ _ _ _ _ hs1 h1
    | _ => exact hQ _ _ _ _ hs1 h1
  | loop c ih => intro p ho lr ds e w k h; exact ho lr ds e w k h
  | rangeFunc f ps c1 c2 _ _ => intro p ho lr ds e w k h; exact ho lr ds e w k h
  | scope c ih => intro p ho lr ds e w k h; exact ho lr ds e w k h

/-! ### Functions -/

/-- the results, out of the slots -/
def resultsK (C : Tell) (rs : List ResultVar) (e : Env) (w : World) (acc : List Value) (K : List Value → Prop) : Prop :=
  match rs with
  | [] => K acc
  | .tmp t :: rs => match get e t with | some v => resultsK C rs e w (acc ++ [v]) K | none => False
  | .cell t ty :: rs =>
    match get e t, C.ty ty with
    | some (.pointer (some a)), some ti => if ti.isTuple = true then False else ldT ti a w fun v => resultsK C rs e w (acc ++ [v]) K
    | _, _ => False

def oneOf (vs : List Value) : Value :=
  match vs with
  | [v] => v
  | vs => .tuple vs.toArray

/-- a function's end -/
def endK (C : Tell) (rs : List ResultVar) (K : Value → World → Prop) : Kont := fun x e w =>
  match x with
  | .normal => resultsK C rs e w [] fun vs => K (oneOf vs) w
  | .ret => resultsK C rs e w [] fun vs => K (oneOf vs) w
  | _ => False

def env0 (args : List Value) (n : Nat) : Env := args.map some ++ List.replicate (n - args.length) none

theorem get_append (a b : Env) (i : Nat) : get (a ++ b) i = if i < a.length then get a i else get b (i - a.length) := by
  induction a generalizing i with
  | nil => simp
  | cons x xs ih =>
    cases i with
    | zero => simp [get]
    | succ i =>
      simp only [List.cons_append, get, ih, List.length_cons]
      by_cases h : i < xs.length
      · rw [if_pos h, if_pos (by omega)]
      · rw [if_neg h, if_neg (by omega)]
        congr 1
        omega

theorem get_map_some (vs : List Value) (i : Nat) : get (vs.map some) i = vs[i]? := by
  induction vs generalizing i with
  | nil => rfl
  | cons v vs ih => cases i <;> simp [get, ih]

theorem get_replicate (n i : Nat) : get (List.replicate n none) i = none := by
  induction n generalizing i with
  | zero => rfl
  | succ n ih => cases i <;> simp [List.replicate_succ, get, ih]

theorem stands0 (args : Array Value) (n : Nat) : Stands [] (env0 args.toList n) ⟨args ++ Array.replicate (n - args.size) undef, []⟩ := by
  refine ⟨⟨by simp [env0], fun i v hv => ?_⟩, rfl⟩
  unfold env0 at hv
  rw [get_append] at hv
  split at hv
  · rename_i hi
    rw [get_map_some] at hv
    simp only [List.length_map, Array.length_toList] at hi
    rw [Array.getElem?_append_left hi]
    simpa using hv
  · rw [get_replicate] at hv; cases hv

end Go.Eng

/- The engine, part 9: functions; loops. -/
namespace Go.Eng
open Go Go.RowKit

variable {P : Program} {C : Tell}

def resVal (tmps : Array Value) : ResultVar → Sem Value
  | .tmp t => pure (tmps.getD t undef)
  | .cell a t => do loadVar t (← asAddr (tmps.getD a undef))

theorem getD_known {e : Env} {ts : Array Value} (h : Fits e ts) {t : Nat} {v : Value} (hv : get e t = some v) : ts.getD t undef = v := by
  have h1 := h.known t v hv
  simp only [Array.getD]
  obtain ⟨h2, h3⟩ := Array.getElem?_eq_some_iff.1 h1
  rw [dif_pos h2]
  exact h3

theorem resultsK_sound (hC : C.Ok P) {e : Env} {ts : Array Value} (hf : Fits e ts) {w : World} : ∀ {rs : List ResultVar} {acc : List Value} {K : List Value → Prop}, resultsK C rs e w acc K →
    ∃ vs, (rs.mapM (resVal ts)).run P w = .ok vs w ∧ K (acc ++ vs)
  | [], acc, K, h => ⟨[], rfl, by simpa [resultsK] using h⟩
  | .tmp t :: rs, acc, K, h => by
    have := lawful
    simp only [resultsK] at h
    split at h
    · rename_i v hv
      obtain ⟨vs, h1, h2⟩ := resultsK_sound hC hf h
      refine ⟨v :: vs, ?_, by simpa using h2⟩
      rw [List.mapM_cons]
      simp only [Sem.run_bind, resVal, Sem.run_pure, Result.andThen_ok, h1, getD_known hf hv]
    · exact h.elim
  | .cell t ty :: rs, acc, K, h => by
    have := lawful
    simp only [resultsK] at h
    split at h
    · rename_i a ti hv hti
      split at h
      · exact h.elim
      · rename_i ht
        obtain ⟨i, d, h0⟩ := tyIs hC hti
        obtain ⟨v, h1, h2⟩ := ldT_sound h0 (by simpa using ht) h
        obtain ⟨vs, h3, h4⟩ := resultsK_sound hC hf h2
        refine ⟨v :: vs, ?_, by simpa using h4⟩
        rw [List.mapM_cons]
        simp only [Sem.run_bind, resVal, getD_known hf hv, asAddr, Sem.run_pure, Result.andThen_ok, h1, h3]
    · exact h.elim

theorem results_sound (hC : C.Ok P) {fn : Func} {e : Env} {ts : Array Value} (hf : Fits e ts) {w : World} {K : Value → Prop} (hk : resultsK C fn.results.toList e w [] (fun vs => K (oneOf vs))) :
    ∃ vs : List Value, (results fn ts).run P w = .ok (oneOf vs) w ∧ K (oneOf vs) := by
  obtain ⟨vs, h1, h2⟩ := resultsK_sound hC hf hk
  replace h2 : K (oneOf vs) := by simpa using h2
  refine ⟨vs, ?_, h2⟩
  have := lawful
  have hfn : (results fn ts) = (fn.results.mapM (resVal ts) >>= fun vs => pure (if h : vs.size = 1 then vs[0] else .tuple vs)) := by
    unfold results
    congr 2
  have hm : (fn.results.mapM (resVal ts)).run P w = .ok vs.toArray w := by
    have : fn.results.mapM (resVal ts) = List.toArray <$> fn.results.toList.mapM (resVal ts) := by
      rw [← List.mapM_toArray]
    rw [this, Sem.run_map, h1]
    rfl
  rw [hfn]
  simp only [Sem.run_bind, hm, Result.andThen_ok, Sem.run_pure]
  congr 1
  match vs with
  | [] => rfl
  | [v] => rfl
  | v :: u :: vs => rw [dif_neg (by simp)]; rfl

theorem func_sound (hW : World2 P C) {O : Orac} {f : FuncId} {fn : Func} {c : Code} (hf : P.funcs[f]? = some fn) (hb : fn.body = some c) (ho : Owed P O c 1) {args : Array Value} {w : World} {K : Value → World → Prop}
    (h : evCode C P O c 1 (env0 args.toList fn.ntmps) w (endK C fn.results.toList K)) : CallsV P f args w K := by
  refine callsIn_wide.1 (callsIn_of_wp (F := Fence.wide) (n := 0) hf hb trivial (evCode_sound hW O c 1 ho none [] _ _ _ h _ (stands0 args fn.ntmps) _ fun x e a w hs hk => ?_))
  have key : resultsK C fn.results.toList e w [] (fun vs => K (oneOf vs) w) → a.defers = [] ∧ ∃ v, (results fn a.tmps).run P w = .ok v w ∧ ∃ u, Ending.returned v = .returned u ∧ K u w := by
    intro hk
    obtain ⟨vs, h1, h2⟩ := results_sound (fn := fn) (K := fun v => K v w) hW.ok hs.fits hk
    exact ⟨hs.defers, _, h1, _, rfl, h2⟩
  cases x with
  | normal => exact key hk
  | ret => exact key hk
  | _ => exact hk.elim

/-! ### Loops -/

/-- rounds of a loop: what is carried from round to round is a list of values; what comes out bears the number of the way out -/
def rounds (B : List Value → World → (List Value → World → Prop) → (Nat × List Value → World → Prop) → Prop) : Nat → List Value → World → (Nat × List Value → World → Prop) → Prop
  | 0, _, _, _ => False
  | n + 1, x, w, out => B x w (fun x' w' => rounds B n x' w' out) out

/-- a loop: some number of rounds -/
def LoopP (B : List Value → World → (List Value → World → Prop) → (Nat × List Value → World → Prop) → Prop) (x : List Value) (w : World) (out : Nat × List Value → World → Prop) : Prop := ∃ n, rounds B n x w out

/-- what is known holds -/
def Env.le (e e' : Env) : Prop := e.length ≤ e'.length ∧ ∀ i v, get e i = some v → get e' i = some v

theorem Stands.le {ds : List Deferred} {e e' : Env} {a : Act} (h : Env.le e e') (hs : Stands ds e' a) : Stands ds e a :=
  ⟨⟨Nat.le_trans h.1 hs.fits.size, fun i v hv => hs.fits.known i v (h.2 i v hv)⟩, hs.defers⟩

/-- the values of some slots -/
def takes : List Nat → Env → Option (List Value)
  | [], _ => some []
  | i :: is, e =>
    match get e i, takes is e with
    | some v, some vs => some (v :: vs)
    | _, _ => none

/-- slots, some of which are known -/
def envOf (N : Nat) : List Nat → List Value → Env
  | i :: is, v :: vs => put (envOf N is vs) i (some v)
  | _, _ => List.replicate N none

def takeK (N : Nat) (is : List Nat) (e : Env) (k : List Value → Prop) : Prop :=
  if e.length = N then
    match takes is e with
    | some vs => k vs
    | none => False
  else False

theorem envOf_length (N : Nat) : ∀ is vs, (envOf N is vs).length = N
  | [], _ => by simp [envOf]
  | _ :: _, [] => by simp [envOf]
  | i :: is, v :: vs => by simp [envOf, put_length, envOf_length N is vs]

theorem envOf_le {e : Env} : ∀ {is : List Nat} {vs : List Value}, takes is e = some vs → Env.le (envOf e.length is vs) e
  | [], vs, h => ⟨by simp [envOf], fun i v hv => by simp only [envOf, get_replicate] at hv; cases hv⟩
  | i :: is, vs, h => by
    simp only [takes] at h
    cases hi : get e i with
    | none => simp [hi] at h
    | some u =>
      cases hr : takes is e with
      | none => simp [hi, hr] at h
      | some us =>
        simp [hi, hr] at h
        subst h
        obtain ⟨h1, h2⟩ := envOf_le hr
        refine ⟨by simp [envOf, put_length, envOf_length], fun j v hv => ?_⟩
        simp only [envOf, get_put] at hv
        split at hv
        · rename_i hj
          obtain ⟨rfl, _⟩ := hj
          rw [hi]; exact hv
        · exact h2 j v hv

theorem takeK_spec {N : Nat} {is : List Nat} {e : Env} {k : List Value → Prop} (h : takeK N is e k) : ∃ vs, Env.le (envOf N is vs) e ∧ k vs := by
  unfold takeK at h
  split at h
  · rename_i hN
    split at h
    · rename_i vs hvs
      refine ⟨vs, ?_, h⟩
      rw [← hN]
      exact envOf_le hvs
    · exact h.elim
  · exact h.elim

/-- which way out an exit is -/
def wayOut : List (Exit × List Nat) → Exit → Nat → (Nat → List Nat → Prop) → Prop
  | [], _, _, _ => False
  | (x, is) :: l, y, i, k =>
    match x, y with
    | .normal, .normal => k i is
    | .ret, .ret => k i is
    | .exit a, .exit b => if a = b then k i is else wayOut l y (i + 1) k
    | .goto a, .goto b => if a = b then k i is else wayOut l y (i + 1) k
    | _, _ => wayOut l y (i + 1) k

theorem wayOut_spec : ∀ {l : List (Exit × List Nat)} {y : Exit} {i : Nat} {k : Nat → List Nat → Prop}, wayOut l y i k → ∃ j is, l[j]? = some (y, is) ∧ k (i + j) is
  | [], _, _, _, h => h.elim
  | (x, is) :: l, y, i, k, h => by
    have go : wayOut l y (i + 1) k → ∃ j is', ((x, is) :: l)[j]? = some (y, is') ∧ k (i + j) is' := fun h => by
      obtain ⟨j, is', h1, h2⟩ := wayOut_spec h
      exact ⟨j + 1, is', by simpa using h1, by rw [show i + (j + 1) = i + 1 + j by omega]; exact h2⟩
    simp only [wayOut] at h
    split at h
    · exact ⟨0, is, rfl, h⟩
    · exact ⟨0, is, rfl, h⟩
    · split at h
      · rename_i hab; subst hab; exact ⟨0, is, rfl, h⟩
      · exact go h
    · split at h
      · rename_i hab; subst hab; exact ⟨0, is, rfl, h⟩
      · exact go h
    · exact go h

/-- what a round's end leads to -/
def bodyK (N : Nat) (ins : List Nat) (spec : List (Exit × List Nat)) (next : List Value → World → Prop) (out : Nat × List Value → World → Prop) : Kont := fun x e w =>
  match x with
  | .normal => takeK N ins e fun vs => next vs w
  | x => wayOut spec x 0 fun i is => takeK N is e fun vs => out (i, vs) w

/-- what a loop's end leads to -/
def outK (N : Nat) (spec : List (Exit × List Nat)) (k : Kont) : Nat × List Value → World → Prop := fun y w =>
  match spec[y.1]? with
  | some (x, is) => k x (envOf N is y.2) w
  | none => False

theorem loop_sound {body : Code} {E : Env → World → Kont → Prop} (hb : Sound P body E) (N : Nat) (ins : List Nat) (spec : List (Exit × List Nat))
    (B : List Value → World → (List Value → World → Prop) → (Nat × List Value → World → Prop) → Prop)
    (hB : ∀ vs w next out, B vs w next out → E (envOf N ins vs) w (bodyK N ins spec next out))
    (pat : Nat × List Value → (Nat × List Value → Prop) → Prop) (hpat : ∀ y k, pat y k → k y) :
    Sound P (.loop body) (fun e w k => takeK N ins e fun vs => LoopP B vs w fun y w => pat y fun y => outK N spec k y w) := by
  intro lr ds e w k h a hs Q hQ
  obtain ⟨vs, hle, n, h0⟩ := takeK_spec h
  refine wpIn_loop_rounds n ?_
  replace hs := Stands.le hle hs
  clear h hle e
  have h := h0
  clear h0
  induction n generalizing vs w a with
  | zero => exact h.elim
  | succ n ih =>
    refine hb _ _ _ _ _ (hB _ _ _ _ h) a hs _ fun x e1 a1 w1 hs1 h1 => ?_
    have other : x ≠ .normal → (wayOut spec x 0 fun i is => takeK N is e1 fun vs => pat (i, vs) fun y => outK N spec k y w1) → Q x a1 w1 := fun _ h1 => by
      obtain ⟨j, is, hj, h2⟩ := wayOut_spec h1
      obtain ⟨us, hle1, h3⟩ := takeK_spec h2
      have h4 := hpat _ _ h3
      simp only [outK, Nat.zero_add, hj] at h4
      exact hQ _ _ _ _ (Stands.le hle1 hs1) h4
    cases x with
    | normal =>
      obtain ⟨us, hle1, h2⟩ := takeK_spec h1
      exact ih w1 a1 us (Stands.le hle1 hs1) h2
    | _ => exact other (by simp) h1

/-- the end of a piece -/
def pieceK (N : Nat) (spec : List (Exit × List Nat)) (out : Nat × List Value → World → Prop) : Kont := fun x e w =>
  wayOut spec x 0 fun i is => takeK N is e fun vs => out (i, vs) w

/-- a piece of code, told apart -/
theorem piece_sound {body : Code} {E : Env → World → Kont → Prop} (hb : Sound P body E) (N : Nat) (ins : List Nat) (spec : List (Exit × List Nat))
    (B : List Value → World → (Nat × List Value → World → Prop) → Prop)
    (hB : ∀ vs w out, B vs w out → E (envOf N ins vs) w (pieceK N spec out))
    (pat : Nat × List Value → (Nat × List Value → Prop) → Prop) (hpat : ∀ y k, pat y k → k y) :
    Sound P body (fun e w k => takeK N ins e fun vs => B vs w fun y w => pat y fun y => outK N spec k y w) := by
  intro lr ds e w k h a hs Q hQ
  obtain ⟨vs, hle, h0⟩ := takeK_spec h
  refine hb _ _ _ _ _ (hB _ _ _ h0) a (Stands.le hle hs) _ fun x e1 a1 w1 hs1 h1 => ?_
  obtain ⟨j, is, hj, h2⟩ := wayOut_spec h1
  obtain ⟨us, hle1, h3⟩ := takeK_spec h2
  have h4 := hpat _ _ h3
  simp only [outK, Nat.zero_add, hj] at h4
  exact hQ _ _ _ _ (Stands.le hle1 hs1) h4

/-! ### What is owed, as a list -/

def owes (P : Program) (O : Orac) : Code → Nat → List Prop
  | .seq x y, p =>
    match O.cut p with
    | some E => owes P O x (2 * p) ++ [Sound P y E]
    | none => owes P O x (2 * p) ++ owes P O y (2 * p + 1)
  | .cond _ x y, p => owes P O x (2 * p) ++ owes P O y (2 * p + 1)
  | .block _ c, p => owes P O c (2 * p)
  | .loop c, p => [Sound P (.loop c) (O.loop p)]
  | .rangeFunc f ps a b, p => [Sound P (.rangeFunc f ps a b) (O.loop p)]
  | .scope c, p => [Sound P (.scope c) (O.loop p)]
  | _, _ => []

def allP : List Prop → Prop
  | [] => True
  | [p] => p
  | p :: q :: ps => p ∧ allP (q :: ps)

theorem allP_mem : ∀ {l : List Prop}, allP l → ∀ p ∈ l, p
  | [], _, p, h => by cases h
  | [q], hq, p, h => by
    have : p = q := by simpa using h
    subst this; exact hq
  | q :: r :: ps, hq, p, h => by
    rcases List.mem_cons.1 h with h | h
    · subst h; exact hq.1
    · exact allP_mem hq.2 p h

theorem owed_of {P : Program} {O : Orac} : ∀ {c : Code} {p : Nat}, allP (owes P O c p) → Owed P O c p := by
  suffices key : ∀ {c : Code} {p : Nat}, (∀ q ∈ owes P O c p, q) → Owed P O c p from fun {c p} h => key (allP_mem h)
  intro c
  induction c with
  | seq x y ihx ihy =>
    intro p h
    simp only [owes] at h
    simp only [Owed]
    cases hc : O.cut p with
    | some E =>
      simp only [hc] at h
      exact ⟨ihx fun q hq => h q (List.mem_append_left _ hq), h _ (List.mem_append_right _ (List.mem_singleton.2 rfl))⟩
    | none =>
      simp only [hc] at h
      exact ⟨ihx fun q hq => h q (List.mem_append_left _ hq), ihy fun q hq => h q (List.mem_append_right _ hq)⟩
  | cond c x y ihx ihy =>
    intro p h
    simp only [owes] at h
    exact ⟨ihx fun q hq => h q (List.mem_append_left _ hq), ihy fun q hq => h q (List.mem_append_right _ hq)⟩
  | block id c ih => intro p h; exact ih h
  | loop c _ => intro p h; exact h _ (List.mem_singleton.2 rfl)
  | rangeFunc f ps a b _ _ => intro p h; exact h _ (List.mem_singleton.2 rfl)
  | scope c _ => intro p h; exact h _ (List.mem_singleton.2 rfl)
  | _ => intro p _; trivial

/-- a place in the code -/
def codeAt : Code → List Bool → Code
  | c, [] => c
  | .seq x y, b :: bs => codeAt (if b = true then y else x) bs
  | .cond _ x y, b :: bs => codeAt (if b = true then y else x) bs
  | .block _ c, _ :: bs => codeAt c bs
  | .loop c, _ :: bs => codeAt c bs
  | .scope c, _ :: bs => codeAt c bs
  | .rangeFunc _ _ _ c, _ :: bs => codeAt c bs
  | c, _ :: _ => c

def loopBody : Code → Code
  | .loop c => c
  | c => c

end Go.Eng

/- The engine, part 14: functions without a body; what is told of a program. -/
namespace Go.Eng
open Go Go.RowKit

variable {P : Program}

inductive Xt where
  | load (k : IntKind) | store | cas (k : IntKind) | add (k : IntKind) | add64

def Xt.entry : Xt → Array Value → Sem Value
  | .load k => Extern.Atomic.loadT (.int k)
  | .store => Extern.Atomic.storeT
  | .cas k => Extern.Atomic.casT (.int k)
  | .add k => Extern.Atomic.update (Op.intArith .add) k true
  | .add64 => add64Entry

def xtK (x : Xt) (args : List Value) (w : World) (K : Value → World → Prop) : Prop :=
  match x, args with
  | .load k, [.pointer p] => Nn p fun a => Ld (.int k) a w fun v => K v w
  | .store, [.pointer p, .int k y] => Nn p fun a => St a (.int k y) w fun w => K (.tuple #[]) w
  | .cas k, [.pointer p, .int k1 x, .int k2 y] =>
    if k1 = k ∧ k2 = k then Nn p fun a => ∃ n, w.cell? a = some (.int k n) ∧ w.frozen? a = false ∧ (if n = x then K (.bool true) (w.setCell a (.int k y)) else K (.bool false) w) else False
  | .add k, [.pointer p, .int k1 y] =>
    if k1 = k then Nn p fun a => ∃ n, w.cell? a = some (.int k n) ∧ w.frozen? a = false ∧ K (.int k (k.wrap (n + y))) (w.setCell a (.int k (k.wrap (n + y)))) else False
  | .add64, [.int .u64 x, .int .u64 y, .int .u64 c] =>
    0 ≤ x ∧ 0 ≤ y ∧ 0 ≤ c ∧ c ≤ 1 ∧ K (.tuple #[.int .u64 ((x + y + c) % 18446744073709551616), .int .u64 ((x + y + c) / 18446744073709551616)]) w
  | _, _ => False

structure XtOk (P : Program) (f : FuncId) (x : Xt) (fn : Func) : Prop where
  func : P.funcs[f]? = some fn
  name : (fn.name == "runtime.NumGoroutine") = false
  body : fn.body.isNone = true
  next : Extern.findNext fn = none
  find : Extern.find fn = some x.entry

theorem xt_sound {f : FuncId} {x : Xt} {fn : Func} (hx : XtOk P f x fn) {args : Array Value} {w : World} {K : Value → World → Prop} (h : xtK x args.toList w K) :
    ∃ v w', (callFunc f args).run P w = .ok (.value v) w' ∧ K v w' := by
  obtain ⟨args⟩ := args
  simp only at h
  unfold xtK at h
  split at h
  · rename_i k p
    replace h := Nn_get h
    obtain ⟨a, rfl, n, hn, h⟩ := h
    exact ⟨_, _, run_call_load hx.func hx.name hx.body hx.next k hx.find hn, h⟩
  · rename_i p k y
    replace h := Nn_get h
    obtain ⟨a, rfl, ⟨u, hu⟩, hf, h⟩ := h
    exact ⟨_, _, run_call_store hx.func hx.name hx.body hx.next hx.find hu hf, h⟩
  · rename_i k p k1 x k2 y
    split at h
    · rename_i hk
      obtain ⟨rfl, rfl⟩ := hk
      replace h := Nn_get h
      obtain ⟨a, rfl, n, hn, hf, h⟩ := h
      split at h
      · rename_i hnx
        subst hnx
        exact ⟨_, _, run_call_cas_hit hx.func hx.name hx.body hx.next _ hx.find hn hf, h⟩
      · rename_i hnx
        exact ⟨_, _, run_call_cas_miss hx.func hx.name hx.body hx.next _ hx.find hn hf hnx, h⟩
    · exact h.elim
  · rename_i k p k1 y
    split at h
    · rename_i hk
      subst hk
      replace h := Nn_get h
      obtain ⟨a, rfl, n, hn, hf, h⟩ := h
      exact ⟨_, _, run_call_add hx.func hx.name hx.body hx.next _ hx.find hn hf (by simp [Op.intArith]), h⟩
    · exact h.elim
  · rename_i x y c
    obtain ⟨h1, h2, h3, h4, h⟩ := h
    refine ⟨_, w, ?_, h⟩
    rw [run_callFunc_extern hx.func hx.name hx.body hx.next hx.find]
    have := run_add64 (P := P) x y c h1 h2 h3 h4 w
    simp only [Xt.entry]
    rw [this]
    rfl
  · exact h.elim

/-- a function with a body is entered -/
theorem enter_body {f : FuncId} {fn : Func} (hf : P.funcs[f]? = some fn) (hb : fn.body.isSome = true) (hn : (fn.name == "runtime.NumGoroutine") = false) (args : Array Value) (w : World) :
    (callFunc f args).run P w = .ok (.enter f args) w := by
  have h1 : fn.name ≠ "runtime.NumGoroutine" := by simpa using hn
  obtain ⟨c, hc⟩ := Option.isSome_iff_exists.1 hb
  simp [callFunc, hf, h1, hc]

/-- a tree of types -/
inductive TyTree where
  | leaf
  | one (t : TypeId) (ti : TI)
  | node (k : Nat) (l r : TyTree)

def TyTree.find : TyTree → TypeId → Option TI
  | .leaf, _ => none
  | .one t ti, u => if u = t then some ti else none
  | .node k l r, u => if u < k then l.find u else r.find u

def TyTree.ok (P : Program) : TyTree → Bool
  | .leaf => true
  | .one t ti => ti.ok P t
  | .node _ l r => l.ok P && r.ok P

theorem TyTree.find_ok : ∀ {T : TyTree} {t : TypeId} {ti : TI}, T.ok P = true → T.find t = some ti → ti.ok P t = true
  | .leaf, _, _, _, h => by cases h
  | .one t ti, u, ti', hk, h => by
    simp only [TyTree.find] at h
    split at h
    · rename_i hu; subst hu; cases h; exact hk
    · cases h
  | .node k l r, u, ti', hk, h => by
    simp only [TyTree.ok, Bool.and_eq_true] at hk
    simp only [TyTree.find] at h
    split at h
    · exact TyTree.find_ok hk.1 h
    · exact TyTree.find_ok hk.2 h

def funcOk (P : Program) (f : Nat) : Bool :=
  match P.funcs[f]? with
  | some fn => fn.body.isSome && !(fn.name == "runtime.NumGoroutine")
  | none => false

theorem funcOk_spec {f : Nat} (h : funcOk P f = true) (args : Array Value) (w : World) : (callFunc f args).run P w = .ok (.enter f args) w := by
  unfold funcOk at h
  split at h
  · rename_i fn hf
    simp only [Bool.and_eq_true, Bool.not_eq_true'] at h
    exact enter_body hf h.1 h.2 args w
  · cases h

end Go.Eng

/- The engine, part S: scopes with jumps back to a label. -/
namespace Go.Eng
open Go Go.RowKit

variable {P : Program} {C : Tell}

section
variable {b : Frame} {a : Act} {k : List Item} {cs : List Frame} {w : World}
theorem stepR_scope {c : Code} : step P (lone (b.atR a (.code (.scope c) :: k)) cs w) = .next (lone (b.atR a (.code c :: .inScope c :: k)) cs w) :=
  step_lone_go (by simp [stepG, stepG.exec, Frame.atR])
theorem stepR_inScope {c : Code} : step P (lone (b.atR a (.inScope c :: k)) cs w) = .next (lone (b.atR a k) cs w) :=
  step_lone_go (by simp [stepG, stepG.exec, Frame.atR])
end

/-- passes from a label on -/
def jumps (F : Fence) (P : Program) (rest : Code) (l : Nat) (Q : Exit → Act → World → Prop) : Nat → Act → World → Prop
  | 0, _, _ => False
  | n + 1, a, w => rest.wpIn F 0 P (Exit.jump l (jumps F P rest l Q n) Q) a w

theorem wpIn_scope_rounds {F : Fence} {c rest : Code} {l : Nat} {Q : Exit → Act → World → Prop} {a : Act} {w : World} (hf : findLabel c l = some rest)
    (h : c.wpIn F 0 P (Exit.jump l (fun a w => ∃ n, jumps F P rest l Q n a w) Q) a w) : (Code.scope c).wpIn F 0 P Q a w := by
  intro b k cs hro hb hr
  have hg : gotoIn l (.inScope c :: k) = some (.code rest :: .inScope c :: k) := by simp [gotoIn, hf]
  have hx : ∀ id, exitTo id (.inScope c :: k) = exitTo id k := fun id => by simp [exitTo]
  have fin : ∀ (m : Machine) (e : Exit) (a₁ : Act) (w₁ : World), (∀ l', e ≠ .goto l') → ArrivesIn (Machine.fenced P F) P m b (.inScope c :: k) cs e a₁ w₁ → ArrivesIn (Machine.fenced P F) P m b k cs e a₁ w₁ := by
    intro m e a₁ w₁ hne harr
    cases e with
    | normal => exact StepsIn.trans harr (.one (fenced_calm hb hr rfl) stepR_inScope)
    | exit id => exact ⟨fun k' hk => harr.1 k' (by rw [hx]; exact hk), fun h1 h2 => harr.2 h1 (by rw [hx]; exact h2)⟩
    | goto l' => exact absurd rfl (hne l')
    | ret => exact harr
    | panic ch => exact harr
    | outgrown => exact harr
  have key : ∀ n a w, jumps F P rest l Q n a w → ∃ e a' w', Q e a' w' ∧ ArrivesIn (Machine.fenced P F) P (lone (b.atR a (.code rest :: .inScope c :: k)) cs w) b k cs e a' w' := by
    intro n
    induction n with
    | zero => intro a w h; exact h.elim
    | succ n ih =>
      intro a w h
      obtain ⟨e, a₁, w₁, hq, harr⟩ := h b (.inScope c :: k) cs hro hb hr
      cases e with
      | goto l' =>
        obtain ⟨rfl, hJ⟩ := hq
        obtain ⟨e₂, a₂, w₂, hq₂, harr₂⟩ := ih a₁ w₁ hJ
        exact ⟨e₂, a₂, w₂, hq₂, .of_steps (harr.1 _ hg) harr₂⟩
      | normal => exact ⟨.normal, a₁, w₁, hq, fin _ .normal _ _ (by simp) harr⟩
      | exit id => exact ⟨.exit id, a₁, w₁, hq, fin _ (.exit id) _ _ (by simp) harr⟩
      | ret => exact ⟨.ret, a₁, w₁, hq, fin _ .ret _ _ (by simp) harr⟩
      | panic ch => exact ⟨.panic ch, a₁, w₁, hq, fin _ (.panic ch) _ _ (by simp) harr⟩
      | outgrown => exact ⟨.outgrown, a₁, w₁, hq, fin _ .outgrown _ _ (by simp) harr⟩
  have h0 := fenced_calm (fr := b.atR a (.code (.scope c) :: k)) (w := w) (cs := cs) (P := P) (F := F) hb hr rfl
  obtain ⟨e, a₁, w₁, hq, harr⟩ := h b (.inScope c :: k) cs hro hb hr
  cases e with
  | goto l' =>
    obtain ⟨rfl, n, hJ⟩ := hq
    obtain ⟨e₂, a₂, w₂, hq₂, harr₂⟩ := key n a₁ w₁ hJ
    exact ⟨e₂, a₂, w₂, hq₂, .of_steps (.one h0 stepR_scope) (.of_steps (harr.1 _ hg) harr₂)⟩
  | normal => exact ⟨.normal, a₁, w₁, hq, .of_steps (.one h0 stepR_scope) (fin _ .normal _ _ (by simp) harr)⟩
  | exit id => exact ⟨.exit id, a₁, w₁, hq, .of_steps (.one h0 stepR_scope) (fin _ (.exit id) _ _ (by simp) harr)⟩
  | ret => exact ⟨.ret, a₁, w₁, hq, .of_steps (.one h0 stepR_scope) (fin _ .ret _ _ (by simp) harr)⟩
  | panic ch => exact ⟨.panic ch, a₁, w₁, hq, .of_steps (.one h0 stepR_scope) (fin _ (.panic ch) _ _ (by simp) harr)⟩
  | outgrown => exact ⟨.outgrown, a₁, w₁, hq, .of_steps (.one h0 stepR_scope) (fin _ .outgrown _ _ (by simp) harr)⟩

def scopeBody : Code → Code
  | .scope c => c
  | c => c

/-- what the end of a pass from label l leads to -/
def passK (N : Nat) (l : Nat) (ins : List Nat) (spec : List (Exit × List Nat)) (next : List Value → World → Prop) (out : Nat × List Value → World → Prop) : Kont := fun x e w =>
  match x with
  | .goto l' => if l' = l then takeK N ins e fun vs => next vs w else False
  | x => wayOut spec x 0 fun i is => takeK N is e fun vs => out (i, vs) w

/-- what follows the first pass through a scope -/
def scopeK (N : Nat) (l : Nat) (ins : List Nat) (spec : List (Exit × List Nat)) (B : List Value → World → (List Value → World → Prop) → (Nat × List Value → World → Prop) → Prop) (pat : Nat × List Value → (Nat × List Value → Prop) → Prop) (k : Kont) : Kont := fun x e w =>
  match x with
  | .goto l' => if l' = l then takeK N ins e fun vs => LoopP B vs w fun y w => pat y fun y => outK N spec k y w else False
  | x => k x e w

theorem scope_sound {c rest : Code} {l : Nat} (hf : findLabel c l = some rest) {E1 E2 : Env → World → Kont → Prop} (h1 : Sound P c E1) (h2 : Sound P rest E2) (N : Nat) (ins : List Nat) (spec : List (Exit × List Nat))
    (B : List Value → World → (List Value → World → Prop) → (Nat × List Value → World → Prop) → Prop)
    (hB : ∀ vs w next out, B vs w next out → E2 (envOf N ins vs) w (passK N l ins spec next out))
    (pat : Nat × List Value → (Nat × List Value → Prop) → Prop) (hpat : ∀ y k, pat y k → k y) :
    Sound P (.scope c) (fun e w k => E1 e w (scopeK N l ins spec B pat k)) := by
  intro lr ds e w k h a hs Q hQ
  refine wpIn_scope_rounds hf (h1 _ _ _ _ _ h a hs _ fun x e1 a1 w1 hs1 hk => ?_)
  have loop : ∀ n vs w a, rounds B n vs w (fun y w => pat y fun y => outK N spec k y w) → Stands ds (envOf N ins vs) a → jumps (Fr lr) P rest l Q n a w := by
    intro n
    induction n with
    | zero => intro vs w a h _; exact h.elim
    | succ n ih =>
      intro vs w a h hs
      refine h2 _ _ _ _ _ (hB _ _ _ _ h) a hs _ fun x e1 a1 w1 hs1 h1 => ?_
      have other : (wayOut spec x 0 fun i is => takeK N is e1 fun vs => pat (i, vs) fun y => outK N spec k y w1) → Q x a1 w1 := fun h1 => by
        obtain ⟨j, is, hj, h2⟩ := wayOut_spec h1
        obtain ⟨us, hle1, h3⟩ := takeK_spec h2
        have h4 := hpat _ _ h3
        simp only [outK, Nat.zero_add, hj] at h4
        exact hQ _ _ _ _ (Stands.le hle1 hs1) h4
      cases x with
      | goto l' =>
        simp only [passK] at h1
        split at h1
        · rename_i hl
          obtain ⟨us, hle1, h2⟩ := takeK_spec h1
          exact ⟨hl, ih us w1 a1 h2 (Stands.le hle1 hs1)⟩
        · exact h1.elim
      | _ => exact other h1
  cases x with
  | goto l' =>
    simp only [scopeK] at hk
    split at hk
    · rename_i hl
      obtain ⟨us, hle1, n, h2⟩ := takeK_spec hk
      exact ⟨hl, n, loop n us w1 a1 h2 (Stands.le hle1 hs1)⟩
    · exact hk.elim
  | _ => exact hQ _ _ _ _ hs1 hk

end Go.Eng
