/- Proofs about the front of the overload controller, part 20: C37 C38 C39 C40 C31. -/
import Derived.Test.YtdodcfbmpmapmaaGreatW19
import Derived.Test.YtdodcfbmpmapmaaGreatW07
import Derived.Test.YtdodcfbmpmapmaaGreatW17
set_option linter.all false
set_option linter.constructorNameAsVariable false
set_option linter.unusedVariables false
/- What the functions of the front do: apply. -/
set_option linter.all false
set_option linter.constructorNameAsVariable false
set_option maxRecDepth 100000
namespace Go.M
open Go Go.Eng Go.RowKit

variable {w w' w1 w2 : World} {d d' d2 : FIds} {f f2 : FrontC} {K : Value → World → Prop} {k : Nat}

theorem FrontHAt.set_app {pb tb : Nat} {s : FrontHM} (h : FrontHAt w pb tb s) (v : Value) : FrontHAt (w.setCell ⟨pb, 5, none⟩ v) pb tb s where
  ne_pb_tb := h.ne_pb_tb
  h_core := (cell_set_ne (.inr (by omega))).trans h.h_core
  h_ring := (cell_set_ne (.inr (by omega))).trans h.h_ring
  h_lock := (cell_set_ne (.inr (by omega))).trans h.h_lock
  h_ths := (cell_set_ne (.inr (by omega))).trans h.h_ths
  h_clock := (cell_set_ne (.inr (by omega))).trans h.h_clock
  c_next := fun j hj => (cell_set_ne (.inl (Ne.symm h.ne_pb_tb))).trans (h.c_next j hj)
  c_kind := fun j hj => (cell_set_ne (.inl (Ne.symm h.ne_pb_tb))).trans (h.c_kind j hj)
  c_tier := fun j hj => (cell_set_ne (.inl (Ne.symm h.ne_pb_tb))).trans (h.c_tier j hj)
  c_cohort := fun j hj => (cell_set_ne (.inl (Ne.symm h.ne_pb_tb))).trans (h.c_cohort j hj)
  c_num := fun j hj => (cell_set_ne (.inl (Ne.symm h.ne_pb_tb))).trans (h.c_num j hj)
  c_box := fun j hj => (cell_set_ne (.inl (Ne.symm h.ne_pb_tb))).trans (h.c_box j hj)
  c_act := fun j hj => (cell_set_ne (.inl (Ne.symm h.ne_pb_tb))).trans (h.c_act j hj)
  c_left := fun j hj => (cell_set_ne (.inl (Ne.symm h.ne_pb_tb))).trans (h.c_left j hj)
  c_whose := fun j hj => (cell_set_ne (.inl (Ne.symm h.ne_pb_tb))).trans (h.c_whose j hj)
  c_answer := fun j hj => (cell_set_ne (.inl (Ne.symm h.ne_pb_tb))).trans (h.c_answer j hj)
  c_ticket := fun j hj => (cell_set_ne (.inl (Ne.symm h.ne_pb_tb))).trans (h.c_ticket j hj)
  c_rtier := fun j hj => (cell_set_ne (.inl (Ne.symm h.ne_pb_tb))).trans (h.c_rtier j hj)
  c_rcohort := fun j hj => (cell_set_ne (.inl (Ne.symm h.ne_pb_tb))).trans (h.c_rcohort j hj)
  c_sojourn := fun j hj => (cell_set_ne (.inl (Ne.symm h.ne_pb_tb))).trans (h.c_sojourn j hj)
  z_pb := fun i => (frozen_set _ _ _ _).trans (h.z_pb i)
  z_tb := fun i => (frozen_set _ _ _ _).trans (h.z_tb i)
  lt_pb := by rw [size_setCell]; exact h.lt_pb
  lt_tb := by rw [size_setCell]; exact h.lt_tb

theorem app_ok (a : FAt w d f) {x : Ap} {bb : Nat} {sv : Value} (hsv : w.cell? ⟨d.fb, 5, none⟩ = some sv) (hbb : ∀ j u, x.cells[j]? = some u → w.cell? ⟨bb, j, none⟩ = some u) (hn : f.ap.length + 1 ≤ 1000000) {q : World → Prop}
    (hq : ∀ w' d', Stp w w' d d' → d'.c = d.c → d'.rb = d.rb → FAt w' d' { f with ap := f.ap ++ [x] } → q w') :
    RunB P .append #[38, 38] 38 #[false, false] #[sv, .slice (some ⟨bb, 0, none⟩) 1 1] w fun v w' => ∃ (sA : Option Addr) (sL sC : Nat), v = .slice sA sL sC ∧ St ⟨d.fb, 5, none⟩ (.slice sA sL sC) w' q := by
  obtain ⟨sv', g1, g2, g3⟩ := a.app
  have : sv' = sv := by rw [hsv] at g1; cases g1; rfl
  subst this
  obtain ⟨l1, l2, l3, l4, l5, l6, l7, l8, l9⟩ := a.lt
  refine append_ok W2 (t := 38) (e := 62) (ti := ti62) rfl rfl rfl (by simp [ti62]) rfl g2 (news := x.cells) rfl hbb (by simp [Ap.cells, Opn.cells, Rs.cells, Value.oneCell']) (by have := maxLen_big; omega) (by show (f.ap.length + 1) * 88 ≤ 140737488355328; omega) fun g cap w1 h1 h2 h3 => ⟨_, _, _, rfl, ?_⟩
  have o1 : Only d.ao.toList w w1 := own_only g2 h2 (fun b hb => by rw [g3] at hb; simp [hb])
  have fbn : d.fb ∉ d.ao.toList := fun h => by
    have e : d.ao = some d.fb := by simpa using h
    have := a.t_ao _ e
    rw [a.t_fb] at this
    cases this
  have hd1 := a.hd
  have hc1 := o1.cell hsv fbn
  have hz1 : ∀ i, w1.frozen? ⟨d.fb, i, none⟩ = false := fun i => (o1.frozen l1 fbn).trans (a.hd.z_pb i)
  obtain ⟨w2, hw2⟩ : ∃ w2, w1.setCell ⟨d.fb, 5, none⟩ (.slice (some ⟨g, 0, none⟩) (f.ap.length + 1) cap) = w2 := ⟨_, rfl⟩
  have o2 : Only [d.fb] w1 w2 := by rw [← hw2]; exact (Only.refl _ _).st (.inl (by simp)) hc1
  have hgt : d.tag g = .app ∨ (d.tag g = .other ∧ g = w.heap.size) := by
    rcases h3 with h3 | h3
    · exact .inl (a.t_ao _ (by rw [← g3]; exact h3))
    · exact .inr ⟨a.t_new _ (by omega), h3⟩
  have tg : ∀ x y, d.tag x = y → y ≠ .other → upd d.tag g .app x = y := fun x y hx hy => by
    by_cases e : x = g
    · subst e
      rw [upd_same]
      rcases hgt with h | h
      · rw [← hx, h]
      · exact absurd (hx.symm.trans h.1) hy
    · rw [upd_other e]; exact hx
  have hgl : g < w1.heap.size := (h1.lt g rfl).2
  refine St_at hc1 (hz1 _) ?_
  rw [hw2]
  have o12 : Only (d.fb :: d.ao.toList) w w2 := (o1.mono (fun b hb => List.mem_cons_of_mem _ hb)).trans (o2.mono (by simp))
  have no : ∀ b x, d.tag b = x → x ≠ .front → x ≠ .app → b ∉ d.fb :: d.ao.toList := fun b x hx n1 n2 hb => by
    rcases List.mem_cons.1 hb with e | e
    · exact n1 (by rw [← hx, e, a.t_fb])
    · have e : d.ao = some b := by simpa using e
      exact n2 (by rw [← hx, a.t_ao _ e])
  refine hq w2 { d with ao := some g, tag := upd d.tag g .app } ⟨⟨_, o12, fun b hb => .inl ?_⟩, fun b hb => ?_, rfl, rfl⟩ rfl rfl ?_
  · rcases List.mem_cons.1 hb with e | e
    · rw [e, a.t_fb]; simp
    · have e : d.ao = some b := by simpa using e
      rw [a.t_ao _ e]; simp
  · show upd d.tag g .app b = d.tag b
    by_cases e : b = g
    · subst e
      rw [upd_same]
      rcases hgt with h | h
      · exact h.symm
      · omega
    · exact upd_other e
  · refine ⟨?_, a.core, a.ring, a.lock, a.ca.only o12 fun b hb => no b _ (a.t_c b hb) (by simp) (by simp), a.ra.only o12 (no _ _ a.t_rb (by simp) (by simp)) (no _ _ a.t_sb (by simp) (by simp)), a.la.only o12 (no _ _ a.t_kb (by simp) (by simp)),
      fun j hj => ⟨(a.box j hj).1, (a.box j hj).2.only o12 (no _ _ (a.t_bx j hj) (by simp) (by simp))⟩, fun j hj hnj => ?_, ⟨.slice (some ⟨g, 0, none⟩) (f.ap.length + 1) cap, ?_, ?_, rfl⟩, tg _ _ a.t_fb (by simp), tg _ _ a.t_tb (by simp), tg _ _ a.t_rb (by simp), tg _ _ a.t_sb (by simp), tg _ _ a.t_kb (by simp), fun g' hg' => ?_, fun x hx => tg _ _ (a.t_c x hx) (by simp), fun j hj => tg _ _ (a.t_bx j hj) (by simp), fun x hx => ?_⟩
    · have hdd := a.hd.only o1 fbn (fun h => by
        have e : d.ao = some d.tb := by simpa using h
        have := a.t_ao _ e
        rw [a.t_tb] at this
        cases this)
      rw [← hw2]
      exact hdd.set_app _
    · obtain ⟨h1, h2, h3, h4⟩ := a.act j hj hnj
      exact ⟨h1, h2.only o12 (no _ _ h4 (by simp) (by simp)), h3, tg _ _ h4 (by simp)⟩
    · rw [← hw2]; exact cell_set_eq hc1
    · have := own_kept h1 o2 (fun b hb => by
        have e : b = g := by simpa [Value.ownBlock, eq_comm] using hb
        subst e
        intro hc
        have e : b = d.fb := by simpa using hc
        subst e
        rcases hgt with h | h
        · rw [a.t_fb] at h; cases h
        · omega)
      have e : (f.ap ++ [x]).flatMap Ap.cells = f.ap.flatMap Ap.cells ++ x.cells := by simp
      have e2 : (f.ap ++ [x]).length = f.ap.length + 1 := by simp
      show w2.ownsRow 0 62 11 _ (f.ap ++ [x]).length ((f.ap ++ [x]).flatMap Ap.cells)
      rw [e, e2]
      exact this
    · cases hg'
      exact upd_same ..
    · have := o2.size
      exact (upd_other (by omega)).trans (a.t_new x (Nat.le_trans o12.size hx))

def FrontC.sCore (f : FrontC) (ch' : CoreHM) (T' : Int) (rows' : Nat → List (Int × Rq)) (log' : List Oc) : FrontC := { f with ch := ch', T := T', rows := rows', log := log' }
def FrontC.sRes (f : FrontC) (k : Nat) (r : Rs) : FrontC := { f with h := { f.h with answer := upd f.h.answer k r.answer, ticket := upd f.h.ticket k r.ticket, rtier := upd f.h.rtier k r.tier, rcohort := upd f.h.rcohort k r.cohort, sojourn := upd f.h.sojourn k r.sojourn } }
theorem sRes_eq (f : FrontC) (k : Nat) (r : Rs) : ((((f.sAnswer k r.answer).sTicket k r.ticket).sRtier k r.tier).sRcohort k r.cohort).sSojourn k r.sojourn = f.sRes k r := by
  simp only [FrontC.sAnswer, FrontC.sTicket, FrontC.sRtier, FrontC.sRcohort, FrontC.sSojourn, FrontC.sRes]
def FrontC.sAp (f : FrontC) (x : Ap) : FrontC := { f with ap := f.ap ++ [x] }

theorem sres_ok (a : FAt w d f) (hk : k < f.h.n) (r : Rs) {q : World → Prop} (hq : ∀ w', FAt w' d (f.sRes k r) → Stp w w' d d → Only [d.tb] w w' → q w') :
    St ⟨d.tb, k * 14 + 9, none⟩ (.int .u8 r.answer) w fun w => St ⟨d.tb, k * 14 + 9 + 1, none⟩ (.int .u64 r.ticket) w fun w => St ⟨d.tb, k * 14 + 9 + 2, none⟩ (.int .i64 r.tier) w fun w => St ⟨d.tb, k * 14 + 9 + 3, none⟩ (.int .i64 r.cohort) w fun w => St ⟨d.tb, k * 14 + 9 + 4, none⟩ (.int .i64 r.sojourn) w q := by
  simp only [Nat.add_assoc, Nat.reduceAdd]
  simp only [← sRes_eq] at hq
  refine st_answer a hk fun w8 a8 s8 p8 => st_ticket a8 hk fun w9 a9 s9 p9 => st_rtier a9 hk fun wa aa sa pa => st_rcohort aa hk fun wb ab sb pb => st_sojourn ab hk fun wc ac sc pc => hq wc ac ((((s8.trans s9).trans sa).trans sb).trans sc) ((((p8.trans p9).trans pa).trans pb).trans pc)

theorem RunB_mono {P : Program} {b : Builtin} {ts : Array TypeId} {ty : TypeId} {cs : Array Bool} {args : Array Value} {w : World} {K K' : Value → World → Prop} (h : RunB P b ts ty cs args w K) (hk : ∀ v w', K v w' → K' v w') : RunB P b ts ty cs args w K' := by
  obtain ⟨v, w', h1, h2⟩ := h
  exact ⟨v, w', h1, hk _ _ h2⟩
theorem St_mono {a : Addr} {v : Value} {w : World} {q q' : World → Prop} (h : St a v w q) (hk : ∀ w', q w' → q' w') : St a v w q' := ⟨h.1, h.2.1, hk _ h.2.2⟩

set_option maxHeartbeats 1000000 in
theorem apply_ok (a : FAt w d f) (hk : k < f.h.n) {j : Nat} (hj : f.h.whose k = j) (hjn : j < f.h.n) (hst : (f.bs j).state = 1) (hap : f.ap.length + 1 ≤ 1000000) {Q : Rs → CoreHM → Int → (Nat → List (Int × Rq)) → List Oc → Prop}
    (hdo : ∀ w1 (K1 : Value → World → Prop), CAt w1 d.c f.ch f.cn f.T f.rows f.log → (∀ w' c' r ch' T' rows' log', Q r ch' T' rows' log' → Only d.c.list w1 w' → c'.cb = d.c.cb → (∀ b ∈ c'.list, b ∈ d.c.list ∨ w1.heap.size ≤ b) → CAt w' c' ch' f.cn T' rows' log' → K1 (Rs.v r) w') →
      CallsV P 27 #[.pointer (some ⟨d.c.cb, 0, none⟩), .int .i64 f.h.clock, (f.bs j).opn.v] w1 K1)
    (hK : ∀ w' d' r ch' T' rows' log', Q r ch' T' rows' log' → Stp w w' d d' → FAt w' d' ((((f.sCore ch' T' rows' log').sRes k r).sAp ⟨(j : Int), f.h.clock, (f.bs j).opn, r⟩).sNext k 7) → K (.tuple #[]) w') :
    CallsV P 73 #[.pointer (some ⟨d.fb, 0, none⟩), .pointer (some ⟨d.tb, k * 14, none⟩)] w K := by
  refine m_front_Front_apply_ok ?_
  unfold m_front_Front_apply
  have o0 : Only [] w w.drew := Only.drew w
  have a0 := a.only0 o0
  refine nn_some ?_
  simp only [addr_add, Nat.add_zero, Nat.zero_add]
  refine ld_slice a0.hd.h_ths (nn_some ?_)
  simp only [addr_add, Nat.add_zero, Nat.zero_add]
  refine ld_int (a0.hd.c_whose k hk) ?_
  rw [hj]
  refine ix_nat hjn ?_
  simp only [addr_add, Nat.add_zero, Nat.zero_add, Int.toNat_natCast]
  refine ld_ptr (a0.hd.c_box j hjn) ?_
  rw [(a0.box j hjn).1]
  have hq : ∀ {w1}, FAt w1 d f → QCall P 121 #[.pointer (some ⟨d.bx j, 0, none⟩)] w1 (.tuple #[(f.bs j).opn.v, .bool true]) := fun a1 => q_of fun w2 hb K hk => boxOp_yes ((a1.only0 (only_of_below hb)).box j hjn).2 hst hk
  refine ⟨_, _, _, _, _, hq a0, fun w2 hb2 => al_intro ?_⟩
  have o2 := o0.trans (onlyBelow hb2)
  have a2 := a.only0 o2
  obtain ⟨w3, hw3⟩ : ∃ w3, w2.alloc (.cells #[.int .u8 0, .int .i64 0, .int .i64 0, .int .i64 0] 32) = w3 := ⟨_, rfl⟩
  have o3 : Only [] w2 w3 := by rw [← hw3]; exact Only.alloc _ _
  have ro : OpAt w3 w2.heap.size ⟨0, 0, 0, 0⟩ := by rw [← hw3]; constructor <;> (try intro i) <;> simp [cell_new, frozen_new]
  rw [hw3]
  have a3 := a2.only0 o3
  refine ⟨a3.hd.h_ths, by rw [a3.hd.c_whose k hk, hj], by rw [a3.hd.c_box j hjn, (a3.box j hjn).1], hq a3, fun w4 hb4 => ?_⟩
  have o4 := onlyBelow hb4
  have a4 := a3.only0 o4
  have ro4 : OpAt w4 w2.heap.size ⟨0, 0, 0, 0⟩ := ⟨o4.cell ro.c0 (by simp), o4.cell ro.c1 (by simp), o4.cell ro.c2 (by simp), o4.cell ro.c3 (by simp), fun i => (o4.frozen (cell_lt ro.c0) (by simp)).trans (ro.z i)⟩
  have o04 : Only [] w w4 := (o2.trans o3).trans o4
  have ht2 : d.tag w2.heap.size = .other := a2.t_new _ (Nat.le_refl _)
  refine op_store (r := (f.bs j).opn) ro4 o04 o2.size fun w5 o5 o45 ro5 => nn_some ?_
  have a5 := a4.only o45 fun b hb => .inl (by rw [List.mem_singleton.1 hb]; exact ht2)
  simp only [addr_add, Nat.add_zero, Nat.zero_add]
  refine load64_ok a5.hd.h_clock ⟨_, rfl, nn_some ?_⟩
  have o6 : Only [] w5 w5.drew := Only.drew w5
  have a6 := a5.only0 o6
  have s6 : Stp w w5.drew d d := Stp.of0 (o5.trans o6)
  have ro6 : OpAt w5.drew w2.heap.size (f.bs j).opn := ⟨o6.cell ro5.c0 (by simp), o6.cell ro5.c1 (by simp), o6.cell ro5.c2 (by simp), o6.cell ro5.c3 (by simp), fun i => (o6.frozen (cell_lt ro5.c0) (by simp)).trans (ro5.z i)⟩
  simp only [addr_add, Nat.add_zero, Nat.zero_add]
  refine ld_ptr a6.hd.h_core ?_
  rw [a6.core]
  refine ld_int ro6.c0 (ld_int ro6.c1 (ld_int ro6.c2 (ld_int ro6.c3 ?_)))
  refine hdo _ _ a6.ca fun w7 c7 r ch' T' rows' log' hQ o7 e7 n7 ca7 => ⟨_, _, _, _, _, rfl, nn_some ?_⟩
  obtain ⟨tag7, a7, s7⟩ := a6.coreTo o7 ca7 e7 n7
  simp only [addr_add, Nat.add_zero, Nat.zero_add]
  have bo : w2.heap.size < w5.drew.heap.size := cell_lt ro6.c0
  obtain ⟨S, hS1, hS2⟩ := s7.notin ht2 bo
  have ro7 : OpAt w7 w2.heap.size (f.bs j).opn := ⟨hS1.cell ro6.c0 hS2, hS1.cell ro6.c1 hS2, hS1.cell ro6.c2 hS2, hS1.cell ro6.c3 hS2, fun i => (hS1.frozen bo hS2).trans (ro6.z i)⟩
  obtain ⟨f7, hf7⟩ : ∃ f7, f.sCore ch' T' rows' log' = f7 := ⟨_, rfl⟩
  obtain ⟨d7, hd7⟩ : ∃ d7 : FIds, { d with c := c7, tag := tag7 } = d7 := ⟨_, rfl⟩
  have a7' : FAt w7 d7 f7 := by rw [← hf7, ← hd7]; exact a7
  have s7' : Stp w w7 d d7 := by rw [← hd7]; exact s6.trans s7
  have etb : d.tb = d7.tb := by rw [← hd7]
  have efb : d.fb = d7.fb := by rw [← hd7]
  have ht7 : d7.tag w2.heap.size = .other := by rw [← hd7]; exact (s7.tg _ bo).trans ht2
  have hk7 : k < f7.h.n := by rw [← hf7]; exact hk
  have hj7 : f7.h.whose k = j := by rw [← hf7]; exact hj
  have hap7 : f7.ap.length + 1 ≤ 1000000 := by rw [← hf7]; exact hap
  rw [etb, efb]
  replace hK := fun w' d' => hK w' d' r ch' T' rows' log' hQ
  rw [hf7] at hK
  clear hf7 hd7 a7 s7 a6 a5 a4 a3 a2 a0 hdo hq ro6 ro5 ro4 ro ca7
  refine sres_ok a7' hk7 r ?_
  intro w8 a8 s8 p8
  refine nn_some ?_
  obtain ⟨f8, hf8⟩ : ∃ f8, f7.sRes k r = f8 := ⟨_, rfl⟩
  have hk8 : k < f8.h.n := by rw [← hf8]; exact hk7
  have hj8 : f8.h.whose k = j := by rw [← hf8]; exact hj7
  have hap8 : f8.ap.length + 1 ≤ 1000000 := by rw [← hf8]; exact hap7
  have e1 : f8.h.answer k = r.answer := by rw [← hf8]; simp only [FrontC.sRes, upd_same]
  have e2 : f8.h.ticket k = r.ticket := by rw [← hf8]; simp only [FrontC.sRes, upd_same]
  have e3 : f8.h.rtier k = r.tier := by rw [← hf8]; simp only [FrontC.sRes, upd_same]
  have e4 : f8.h.rcohort k = r.cohort := by rw [← hf8]; simp only [FrontC.sRes, upd_same]
  have e5 : f8.h.sojourn k = r.sojourn := by rw [← hf8]; simp only [FrontC.sRes, upd_same]
  rw [hf8] at a8 hK
  clear hf8 hk7 hj7 hap7 a7'
  have od : Only [d7.tb] w7 w8.drew := p8.trans (Only.drew w8)
  have ad := a8.only0 (Only.drew w8)
  have nb : w2.heap.size ∉ [d7.tb] := fun h => by
    have e : w2.heap.size = d7.tb := by simpa using h
    rw [e, ad.t_tb] at ht7; cases ht7
  have s9 : Stp w w8.drew d d7 := (s7'.trans s8).trans (Stp.of0 (Only.drew w8))
  have q0 := od.cell ro7.c0 nb
  have q1 := od.cell ro7.c1 nb
  have q2 := od.cell ro7.c2 nb
  have q3 := od.cell ro7.c3 nb
  obtain ⟨w9, hw9⟩ : ∃ w9, w8.drew = w9 := ⟨_, rfl⟩
  rw [hw9] at ad s9 q0 q1 q2 q3 ⊢
  simp only [addr_add, Nat.add_zero, Nat.zero_add]
  obtain ⟨sv, g1, g2, g3⟩ := ad.app
  obtain ⟨pA, pC, rfl⟩ := row_slice g2
  refine ld_slice g1 (nn_some ?_)
  simp only [addr_add, Nat.add_zero, Nat.zero_add]
  refine ld_int (ad.hd.c_whose k hk8) ?_
  refine ld_int q0 (ld_int q1 (ld_int q2 (ld_int q3 (nn_some ?_))))
  simp only [addr_add, Nat.add_zero, Nat.zero_add, Nat.add_assoc, Nat.reduceAdd]
  refine ld_int (ad.hd.c_answer k hk8) (ld_int (ad.hd.c_ticket k hk8) (ld_int (ad.hd.c_rtier k hk8) (ld_int (ad.hd.c_rcohort k hk8) (ld_int (ad.hd.c_sojourn k hk8) (al_intro ?_)))))
  rw [e1, e2, e3, e4, e5, hj8]
  obtain ⟨x, hx⟩ : ∃ x : Ap, (⟨(j : Int), f.h.clock, (f.bs j).opn, r⟩ : Ap) = x := ⟨_, rfl⟩
  obtain ⟨wx, hwx⟩ : ∃ wx, w9.alloc (.cells #[.int .i64 j, .int .i64 f.h.clock, .int .u8 (f.bs j).opn.kind, .int .i64 (f.bs j).opn.tier, .int .i64 (f.bs j).opn.cohort, .int .i64 (f.bs j).opn.num, .int .u8 r.answer, .int .u64 r.ticket, .int .i64 r.tier, .int .i64 r.cohort, .int .i64 r.sojourn] 62) = wx := ⟨_, rfl⟩
  have ox : Only [] w9 wx := by rw [← hwx]; exact Only.alloc _ _
  have cx : ∀ i u, x.cells[i]? = some u → wx.cell? ⟨w9.heap.size, i, none⟩ = some u := fun i u hu => by
    rw [← hwx, cell_new, if_pos rfl]
    rw [← hx] at hu
    simpa [Ap.cells, Opn.cells, Rs.cells] using hu
  rw [hwx]
  rw [hx] at hK
  have ax := ad.only0 ox
  refine ⟨ox.cell g1 (by simp), ?_⟩
  have sx : Stp w wx d d7 := s9.trans (Stp.of0 ox)
  clear hwx q0 q1 q2 q3
  have ha := app_ok (x := x) ax (ox.cell g1 (by simp)) cx hap8 (q := fun w' => ∃ d', Stp wx w' d7 d' ∧ FAt w' d' (f8.sAp x)) fun w' d' s' _ _ a' => ⟨d', s', a'⟩
  refine RunB_mono ha ?_
  rintro v wv ⟨sA, sL, sC, rfl, hst2⟩
  refine ⟨_, _, _, rfl, nn_some ?_⟩
  simp only [addr_add, Nat.add_zero, Nat.zero_add]
  refine St_mono hst2 ?_
  rintro w10 ⟨d10, s10, a10⟩
  refine nn_some ?_
  simp only [addr_add, Nat.add_zero, Nat.zero_add]
  have etb2 : d7.tb = d10.tb := s10.tb.symm
  rw [etb2]
  exact st_next a10 hk8 fun w11 a11 s11 _ => hK w11 d10 ((sx.trans s10).trans s11) a11

end Go.M

/- What the functions of the front do: a step (printed by c38gen.py). -/
set_option linter.all false
set_option linter.constructorNameAsVariable false
set_option maxRecDepth 100000
namespace Go.M
open Go Go.Eng Go.RowKit

variable {w w' w1 w2 : World} {d d' d2 : FIds} {f f2 : FrontC} {K : Value → World → Prop} {k : Nat}

theorem enter_r (f : FrontC) (p : Option Addr) (k : Nat) : (f.enter p k).r = p := by
  unfold FrontC.enter ActM.join ActM.push
  split <;> rfl

def FrontC.sLock (f : FrontC) (l : LockM) : FrontC := { f with lk := l }

theorem step_post (a : FAt w d f) (hk : k < f.h.n) (hx : f.h.next k = 1) (hk2 : k < 1000000) (h0 : (f.bs k).state = 0)
    (hK : ∀ w' d' b, Stp w w' d d' → d'.c = d.c → d'.rb = d.rb → FAt w' d' (((f.sBox k ((f.bs k).post ⟨f.h.kind k, f.h.tier k, f.h.cohort k, f.h.num k⟩)).sAct k b (f.enter (some ⟨d.rb, 0, none⟩) k)).sNext k 2) → K (.tuple #[Rs.zero.v, .bool false]) w')
     : CallsV P 21 #[.pointer (some ⟨d.fb, 0, none⟩), .int .i64 (k : Int)] w K := by
  refine m_front_Front_Step_ok ?_
  unfold m_front_Front_Step
  refine al_intro ?_
  obtain ⟨w1, hw1⟩ : ∃ w1, w.alloc (.cells #[.int .u8 0, .int .u64 0, .int .i64 0, .int .i64 0, .int .i64 0] 42) = w1 := ⟨_, rfl⟩
  have o1 : Only [] w w1 := by rw [← hw1]; exact Only.alloc _ _
  have hr : RsAt w1 w.heap.size Rs.zero := by rw [← hw1]; exact rs_new w
  rw [hw1]
  have a1 := a.only0 o1
  have s1 : Stp w w1 d d := Stp.of0 o1
  have ht : d.tag w.heap.size = .other := a.t_new _ (Nat.le_refl _)
  have lt1 : w.heap.size < w1.heap.size := cell_lt hr.c0
  refine threadK_ok a1 hk ⟨_, rfl, if_no (by simp) (nn_some ?_)⟩
  simp only [addr_add, Nat.add_zero, Nat.zero_add]
  refine ld_int (a1.hd.c_next k hk) ?_
  rw [hx]
  refine if_yes (by simp) (nn_some ?_)
  have oD : Only [] w1 w1.drew := Only.drew w1
  have aD := a1.only0 oD
  have sD : Stp w w1.drew d d := s1.trans (Stp.of0 oD)
  have hrD := hr.only oD (by simp)
  simp only [addr_add, Nat.add_zero, Nat.zero_add]
  refine ld_ptr (aD.hd.c_box k hk) (nn_some ?_)
  rw [(aD.box k hk).1]
  simp only [addr_add, Nat.add_zero, Nat.zero_add, Nat.add_assoc, Nat.reduceAdd]
  refine ld_int (aD.hd.c_kind k hk) (ld_int (aD.hd.c_tier k hk) (ld_int (aD.hd.c_cohort k hk) (ld_int (aD.hd.c_num k hk) ?_)))
  refine post_ok (o := ⟨f.h.kind k, f.h.tier k, f.h.cohort k, f.h.num k⟩) (aD.box k hk).2 h0 fun w2 o2 b2 => ⟨_, rfl, ?_⟩
  have a2 : FAt w2 d (f.sBox k ((f.bs k).post ⟨f.h.kind k, f.h.tier k, f.h.cohort k, f.h.num k⟩)) := aD.boxTo hk o2 b2
  have sB := Stp.box aD hk o2
  have s2 := sD.trans sB
  have hr2 := hrD.stp sB ht
  refine enters_ok a2 hk2 fun w3 b o3 hb h3 => ⟨_, rfl, nn_some ?_⟩
  have a3 := a2.only0 o3
  have hr3 := hr2.only o3 (by simp)
  simp only [addr_add, Nat.add_zero, Nat.zero_add]
  have hbw : w.heap.size < b := Nat.lt_of_lt_of_le (cell_lt hr2.c0) hb
  refine st_act a3 hk h3 (enter_r _ _ _) (a2.t_new _ hb) hb (Stp.of0 o3) fun w4 d4 a4 s4 e1 e2 _ p4 => nn_some ?_
  have hr4 := hr2.stp s4 ht
  have ht4 : d4.tag w.heap.size = .other := (s4.tg _ (cell_lt hr2.c0)).trans ht
  have etb : d.tb = d4.tb := s4.tb.symm
  simp only [addr_add, Nat.add_zero, Nat.zero_add]
  rw [etb]
  refine st_next a4 hk fun w5 a5 s5 _ => ?_
  exact ans_ok (r := Rs.zero) a5 (hr4.stp s5 ht4) ht4 fun w6 a6 _ o6 _ => hK w6 d4 b (stp_ans ((s2.trans s4).trans s5) (Nat.le_refl _) o6) e1 e2 a6

theorem step_join (a : FAt w d f) (hk : k < f.h.n) (hx : f.h.next k = 2) (o : ActOk f k) (hw : (stepA f.r (f.av k)).next = 5 → (stepA f.r (f.av k)).well = true)
    (hK : ∀ w', Stp w w' d d → FAt w' d (if (stepA f.r (f.av k)).next = 5 then (f.sStep k).sNext k 3 else f.sStep k) → K (.tuple #[Rs.zero.v, .bool false]) w')
     : CallsV P 21 #[.pointer (some ⟨d.fb, 0, none⟩), .int .i64 (k : Int)] w K := by
  refine m_front_Front_Step_ok ?_
  unfold m_front_Front_Step
  refine al_intro ?_
  obtain ⟨w1, hw1⟩ : ∃ w1, w.alloc (.cells #[.int .u8 0, .int .u64 0, .int .i64 0, .int .i64 0, .int .i64 0] 42) = w1 := ⟨_, rfl⟩
  have o1 : Only [] w w1 := by rw [← hw1]; exact Only.alloc _ _
  have hr : RsAt w1 w.heap.size Rs.zero := by rw [← hw1]; exact rs_new w
  rw [hw1]
  have a1 := a.only0 o1
  have s1 : Stp w w1 d d := Stp.of0 o1
  have ht : d.tag w.heap.size = .other := a.t_new _ (Nat.le_refl _)
  have lt1 : w.heap.size < w1.heap.size := cell_lt hr.c0
  refine threadK_ok a1 hk ⟨_, rfl, if_no (by simp) (nn_some ?_)⟩
  simp only [addr_add, Nat.add_zero, Nat.zero_add]
  refine ld_int (a1.hd.c_next k hk) ?_
  rw [hx]
  refine if_no (by simp) ?_
  refine if_yes (by simp) ?_
  refine join_ok a1 hk o hw fun w2 s2 a2 => ⟨_, _, _, _, _, _, rfl, ?_⟩
  exact ans_ok (r := Rs.zero) a2 (hr.stp s2 ht) ht fun w6 a6 _ o6 _ => hK w6 (stp_ans (s1.trans s2) (Nat.le_refl _) o6) a6

theorem step_wait (a : FAt w d f) (hk : k < f.h.n) (hx : f.h.next k = 3) (hs : 0 ≤ (f.bs k).state ∧ (f.bs k).state ≤ 2)
    (h1 : (f.bs k).state ≠ 2 → ∀ w', Stp w w' d d → FAt w' d (f.sNext k 4) → K (.tuple #[Rs.zero.v, .bool false]) w')
    (h2 : (f.bs k).state = 2 → ∀ w', Stp w w' d d → FAt w' d (((f.sBox k { f.bs k with state := 0 }).sNext k 4).sNext k 0) → K (.tuple #[(f.bs k).res.v, .bool true]) w')
     : CallsV P 21 #[.pointer (some ⟨d.fb, 0, none⟩), .int .i64 (k : Int)] w K := by
  refine m_front_Front_Step_ok ?_
  unfold m_front_Front_Step
  refine al_intro ?_
  obtain ⟨w1, hw1⟩ : ∃ w1, w.alloc (.cells #[.int .u8 0, .int .u64 0, .int .i64 0, .int .i64 0, .int .i64 0] 42) = w1 := ⟨_, rfl⟩
  have o1 : Only [] w w1 := by rw [← hw1]; exact Only.alloc _ _
  have hr : RsAt w1 w.heap.size Rs.zero := by rw [← hw1]; exact rs_new w
  rw [hw1]
  have a1 := a.only0 o1
  have s1 : Stp w w1 d d := Stp.of0 o1
  have ht : d.tag w.heap.size = .other := a.t_new _ (Nat.le_refl _)
  have lt1 : w.heap.size < w1.heap.size := cell_lt hr.c0
  refine threadK_ok a1 hk ⟨_, rfl, if_no (by simp) (nn_some ?_)⟩
  simp only [addr_add, Nat.add_zero, Nat.zero_add]
  refine ld_int (a1.hd.c_next k hk) ?_
  rw [hx]
  refine if_no (by simp) ?_
  refine if_no (by simp) ?_
  refine if_yes (by simp) ?_
  refine wait_ok a1 hk hs (fun e w2 s2 a2 => ⟨_, _, _, _, _, _, rfl, ?_⟩) (fun e w2 s2 a2 => ⟨_, _, _, _, _, _, rfl, ?_⟩)
  · exact ans_ok (r := Rs.zero) a2 (hr.stp s2 ht) ht fun w6 a6 _ o6 _ => h1 e w6 (stp_ans (s1.trans s2) (Nat.le_refl _) o6) a6
  · exact ans_ok (r := (f.bs k).res) a2 (hr.stp s2 ht) ht fun w6 a6 _ o6 _ => h2 e w6 (stp_ans (s1.trans s2) (Nat.le_refl _) o6) a6

theorem step_lock (a : FAt w d f) (hk : k < f.h.n) (hx : f.h.next k = 4) (hk2 : k < 1000000)
    (h1 : f.lk.owner = 0 → ∀ w' d' b, Stp w w' d d' → d'.c = d.c → FAt w' d' ((((FrontC.sLock (f.sNext k 3) ⟨(k : Int) + 1⟩).sLeft k f.h.n).sAct k b (ActM.pop (some ⟨d.rb, 0, none⟩))).sNext k 5) → K (.tuple #[Rs.zero.v, .bool false]) w')
    (h2 : f.lk.owner ≠ 0 → ∀ w', Stp w w' d d → FAt w' d (f.sNext k 3) → K (.tuple #[Rs.zero.v, .bool false]) w')
     : CallsV P 21 #[.pointer (some ⟨d.fb, 0, none⟩), .int .i64 (k : Int)] w K := by
  refine m_front_Front_Step_ok ?_
  unfold m_front_Front_Step
  refine al_intro ?_
  obtain ⟨w1, hw1⟩ : ∃ w1, w.alloc (.cells #[.int .u8 0, .int .u64 0, .int .i64 0, .int .i64 0, .int .i64 0] 42) = w1 := ⟨_, rfl⟩
  have o1 : Only [] w w1 := by rw [← hw1]; exact Only.alloc _ _
  have hr : RsAt w1 w.heap.size Rs.zero := by rw [← hw1]; exact rs_new w
  rw [hw1]
  have a1 := a.only0 o1
  have s1 : Stp w w1 d d := Stp.of0 o1
  have ht : d.tag w.heap.size = .other := a.t_new _ (Nat.le_refl _)
  have lt1 : w.heap.size < w1.heap.size := cell_lt hr.c0
  refine threadK_ok a1 hk ⟨_, rfl, if_no (by simp) (nn_some ?_)⟩
  simp only [addr_add, Nat.add_zero, Nat.zero_add]
  refine ld_int (a1.hd.c_next k hk) ?_
  rw [hx]
  refine if_no (by simp) ?_
  refine if_no (by simp) ?_
  refine if_no (by simp) ?_
  refine if_yes (by simp) (nn_some ?_)
  simp only [addr_add, Nat.add_zero, Nat.zero_add]
  refine st_next a1 hk fun w2 a2 s2 _ => nn_some ?_
  simp only [addr_add, Nat.add_zero, Nat.zero_add]
  refine ld_ptr a2.hd.h_lock ?_
  rw [a2.lock]
  have hr2 := hr.stp s2 ht
  refine try_ok a2.la hk2 (fun e w3 o3 l3 => ⟨_, rfl, if_yes rfl (nn_some ?_)⟩) (fun e => ⟨_, rfl, if_no (by simp) ?_⟩)
  · have a3 : FAt w3 d (FrontC.sLock (f.sNext k 3) ⟨(k : Int) + 1⟩) := a2.lockTo o3 l3
    have s3 : Stp w2 w3 d d := Stp.of o3 fun b hb => .inl (by rw [List.mem_singleton.1 hb, a2.t_kb]; simp)
    simp only [addr_add, Nat.add_zero, Nat.zero_add]
    refine ld_slice a3.hd.h_ths (nn_some ?_)
    simp only [addr_add, Nat.add_zero, Nat.zero_add]
    refine st_left a3 hk fun w4 a4 s4 _ => takes_ok a4 hk fun w5 d5 b s5 e1 _ a5 => ⟨rfl, ?_⟩
    have hr4 := (hr2.stp s3 ht).stp s4 ht
    exact ans_ok (r := Rs.zero) a5 (hr4.stp s5 ht) ((s5.tg _ (cell_lt hr4.c0)).trans ht) fun w6 a6 _ o6 _ => h1 e w6 d5 b (stp_ans ((((s1.trans s2).trans s3).trans s4).trans s5) (Nat.le_refl _) o6) e1 a6
  · exact ans_ok (r := Rs.zero) a2 hr2 ht fun w6 a6 _ o6 _ => h2 e w6 (stp_ans (s1.trans s2) (Nat.le_refl _) o6) a6

theorem step_take (a : FAt w d f) (hk : k < f.h.n) (hx : f.h.next k = 5) (o : ActOk f k) (hp : (stepA f.r (f.av k)).pops = true)
    (hK : ∀ w', Stp w w' d d → FAt w' d (if (stepA f.r (f.av k)).next = 5 then (if (stepA f.r (f.av k)).well = true then (((f.sStep k).sNext k 8).sWhose k (IntKind.wrap .i64 (stepA f.r (f.av k)).value)).sNext k 6 else (f.sStep k).sNext k 8) else f.sStep k) → K (.tuple #[Rs.zero.v, .bool false]) w')
     : CallsV P 21 #[.pointer (some ⟨d.fb, 0, none⟩), .int .i64 (k : Int)] w K := by
  refine m_front_Front_Step_ok ?_
  unfold m_front_Front_Step
  refine al_intro ?_
  obtain ⟨w1, hw1⟩ : ∃ w1, w.alloc (.cells #[.int .u8 0, .int .u64 0, .int .i64 0, .int .i64 0, .int .i64 0] 42) = w1 := ⟨_, rfl⟩
  have o1 : Only [] w w1 := by rw [← hw1]; exact Only.alloc _ _
  have hr : RsAt w1 w.heap.size Rs.zero := by rw [← hw1]; exact rs_new w
  rw [hw1]
  have a1 := a.only0 o1
  have s1 : Stp w w1 d d := Stp.of0 o1
  have ht : d.tag w.heap.size = .other := a.t_new _ (Nat.le_refl _)
  have lt1 : w.heap.size < w1.heap.size := cell_lt hr.c0
  refine threadK_ok a1 hk ⟨_, rfl, if_no (by simp) (nn_some ?_)⟩
  simp only [addr_add, Nat.add_zero, Nat.zero_add]
  refine ld_int (a1.hd.c_next k hk) ?_
  rw [hx]
  refine if_no (by simp) ?_
  refine if_no (by simp) ?_
  refine if_no (by simp) ?_
  refine if_no (by simp) ?_
  refine if_yes (by simp) ?_
  refine ftake_ok a1 hk o hp fun w2 s2 a2 => ⟨rfl, ?_⟩
  exact ans_ok (r := Rs.zero) a2 (hr.stp s2 ht) ht fun w6 a6 _ o6 _ => hK w6 (stp_ans (s1.trans s2) (Nat.le_refl _) o6) a6

theorem step_apply (a : FAt w d f) (hk : k < f.h.n) (hx : f.h.next k = 6) {j : Nat} (hj : f.h.whose k = j) (hjn : j < f.h.n) (hst : (f.bs j).state = 1) (hap : f.ap.length + 1 ≤ 1000000) {Q : Rs → CoreHM → Int → (Nat → List (Int × Rq)) → List Oc → Prop}
    (hdo : ∀ w1 (K1 : Value → World → Prop), CAt w1 d.c f.ch f.cn f.T f.rows f.log → (∀ w' c' r ch' T' rows' log', Q r ch' T' rows' log' → Only d.c.list w1 w' → c'.cb = d.c.cb → (∀ b ∈ c'.list, b ∈ d.c.list ∨ w1.heap.size ≤ b) → CAt w' c' ch' f.cn T' rows' log' → K1 (Rs.v r) w') →
      CallsV P 27 #[.pointer (some ⟨d.c.cb, 0, none⟩), .int .i64 f.h.clock, (f.bs j).opn.v] w1 K1)
    (hK : ∀ w' d' r ch' T' rows' log', Q r ch' T' rows' log' → Stp w w' d d' → FAt w' d' ((((f.sCore ch' T' rows' log').sRes k r).sAp ⟨(j : Int), f.h.clock, (f.bs j).opn, r⟩).sNext k 7) → K (.tuple #[Rs.zero.v, .bool false]) w')
     : CallsV P 21 #[.pointer (some ⟨d.fb, 0, none⟩), .int .i64 (k : Int)] w K := by
  refine m_front_Front_Step_ok ?_
  unfold m_front_Front_Step
  refine al_intro ?_
  obtain ⟨w1, hw1⟩ : ∃ w1, w.alloc (.cells #[.int .u8 0, .int .u64 0, .int .i64 0, .int .i64 0, .int .i64 0] 42) = w1 := ⟨_, rfl⟩
  have o1 : Only [] w w1 := by rw [← hw1]; exact Only.alloc _ _
  have hr : RsAt w1 w.heap.size Rs.zero := by rw [← hw1]; exact rs_new w
  rw [hw1]
  have a1 := a.only0 o1
  have s1 : Stp w w1 d d := Stp.of0 o1
  have ht : d.tag w.heap.size = .other := a.t_new _ (Nat.le_refl _)
  have lt1 : w.heap.size < w1.heap.size := cell_lt hr.c0
  refine threadK_ok a1 hk ⟨_, rfl, if_no (by simp) (nn_some ?_)⟩
  simp only [addr_add, Nat.add_zero, Nat.zero_add]
  refine ld_int (a1.hd.c_next k hk) ?_
  rw [hx]
  refine if_no (by simp) ?_
  refine if_no (by simp) ?_
  refine if_no (by simp) ?_
  refine if_no (by simp) ?_
  refine if_no (by simp) ?_
  refine if_yes (by simp) ?_
  refine apply_ok a1 hk hj hjn hst hap hdo fun w2 d2 r ch' T' rows' log' hQ s2 a2 => ⟨rfl, ?_⟩
  exact ans_ok (r := Rs.zero) a2 (hr.stp s2 ht) ((s2.tg _ lt1).trans ht) fun w6 a6 _ o6 _ => hK w6 d2 r ch' T' rows' log' hQ (stp_ans (s1.trans s2) (Nat.le_refl _) o6) a6

theorem step_tell (a : FAt w d f) (hk : k < f.h.n) (hx : f.h.next k = 7) {j : Nat} (hj : f.h.whose k = j) (hjn : j < f.h.n) (hs : (f.bs j).state = 1) {l : Int} (hl : IntKind.wrap .i64 (f.h.left k - 1) = l)
    (h1 : 0 < l → ∀ w' d' b, Stp w w' d d' → d'.c = d.c → FAt w' d' ((((f.sBox j ((f.bs j).finish (f.res k))).sLeft k l).sAct k b (ActM.pop (some ⟨d.rb, 0, none⟩))).sNext k 5) → K (.tuple #[Rs.zero.v, .bool false]) w')
    (h2 : ¬ 0 < l → ∀ w', Stp w w' d d → FAt w' d (((f.sBox j ((f.bs j).finish (f.res k))).sLeft k l).sNext k 8) → K (.tuple #[Rs.zero.v, .bool false]) w')
     : CallsV P 21 #[.pointer (some ⟨d.fb, 0, none⟩), .int .i64 (k : Int)] w K := by
  refine m_front_Front_Step_ok ?_
  unfold m_front_Front_Step
  refine al_intro ?_
  obtain ⟨w1, hw1⟩ : ∃ w1, w.alloc (.cells #[.int .u8 0, .int .u64 0, .int .i64 0, .int .i64 0, .int .i64 0] 42) = w1 := ⟨_, rfl⟩
  have o1 : Only [] w w1 := by rw [← hw1]; exact Only.alloc _ _
  have hr : RsAt w1 w.heap.size Rs.zero := by rw [← hw1]; exact rs_new w
  rw [hw1]
  have a1 := a.only0 o1
  have s1 : Stp w w1 d d := Stp.of0 o1
  have ht : d.tag w.heap.size = .other := a.t_new _ (Nat.le_refl _)
  have lt1 : w.heap.size < w1.heap.size := cell_lt hr.c0
  refine threadK_ok a1 hk ⟨_, rfl, if_no (by simp) (nn_some ?_)⟩
  simp only [addr_add, Nat.add_zero, Nat.zero_add]
  refine ld_int (a1.hd.c_next k hk) ?_
  rw [hx]
  refine if_no (by simp) ?_
  refine if_no (by simp) ?_
  refine if_no (by simp) ?_
  refine if_no (by simp) ?_
  refine if_no (by simp) ?_
  refine if_no (by simp) ?_
  refine if_yes (by simp) ?_
  refine tell_ok a1 hk hj hjn hs hl (fun e w2 d2 b s2 e1 a2 => ⟨rfl, ?_⟩) (fun e w2 s2 a2 => ⟨rfl, ?_⟩)
  · exact ans_ok (r := Rs.zero) a2 (hr.stp s2 ht) ((s2.tg _ lt1).trans ht) fun w6 a6 _ o6 _ => h1 e w6 d2 b (stp_ans (s1.trans s2) (Nat.le_refl _) o6) e1 a6
  · exact ans_ok (r := Rs.zero) a2 (hr.stp s2 ht) ht fun w6 a6 _ o6 _ => h2 e w6 (stp_ans (s1.trans s2) (Nat.le_refl _) o6) a6

theorem step_free (a : FAt w d f) (hk : k < f.h.n) (hx : f.h.next k = 8) (hk2 : k < 1000000)
    (hK : ∀ w', Stp w w' d d → FAt w' d ((if f.lk.owner = (k : Int) + 1 then f.sLock ⟨0⟩ else f).sNext k 3) → K (.tuple #[Rs.zero.v, .bool false]) w')
     : CallsV P 21 #[.pointer (some ⟨d.fb, 0, none⟩), .int .i64 (k : Int)] w K := by
  refine m_front_Front_Step_ok ?_
  unfold m_front_Front_Step
  refine al_intro ?_
  obtain ⟨w1, hw1⟩ : ∃ w1, w.alloc (.cells #[.int .u8 0, .int .u64 0, .int .i64 0, .int .i64 0, .int .i64 0] 42) = w1 := ⟨_, rfl⟩
  have o1 : Only [] w w1 := by rw [← hw1]; exact Only.alloc _ _
  have hr : RsAt w1 w.heap.size Rs.zero := by rw [← hw1]; exact rs_new w
  rw [hw1]
  have a1 := a.only0 o1
  have s1 : Stp w w1 d d := Stp.of0 o1
  have ht : d.tag w.heap.size = .other := a.t_new _ (Nat.le_refl _)
  have lt1 : w.heap.size < w1.heap.size := cell_lt hr.c0
  refine threadK_ok a1 hk ⟨_, rfl, if_no (by simp) (nn_some ?_)⟩
  simp only [addr_add, Nat.add_zero, Nat.zero_add]
  refine ld_int (a1.hd.c_next k hk) ?_
  rw [hx]
  refine if_no (by simp) ?_
  refine if_no (by simp) ?_
  refine if_no (by simp) ?_
  refine if_no (by simp) ?_
  refine if_no (by simp) ?_
  refine if_no (by simp) ?_
  refine if_no (by simp) ?_
  refine if_yes (by simp) (nn_some ?_)
  simp only [addr_add, Nat.add_zero, Nat.zero_add]
  refine ld_ptr a1.hd.h_lock ?_
  rw [a1.lock]
  refine free_lock_ok a1.la hk2 (fun e w3 o3 l3 => ⟨_, rfl, nn_some ?_⟩) (fun e => ⟨_, rfl, nn_some ?_⟩)
  · have a3 : FAt w3 d (f.sLock ⟨0⟩) := a1.lockTo o3 l3
    have s3 : Stp w1 w3 d d := Stp.of o3 fun b hb => .inl (by rw [List.mem_singleton.1 hb, a1.t_kb]; simp)
    simp only [addr_add, Nat.add_zero, Nat.zero_add]
    simp only [if_pos e] at hK
    refine st_next a3 hk fun w4 a4 s4 _ => ?_
    exact ans_ok (r := Rs.zero) a4 ((hr.stp s3 ht).stp s4 ht) ht fun w6 a6 _ o6 _ => hK w6 (stp_ans ((s1.trans s3).trans s4) (Nat.le_refl _) o6) a6
  · simp only [addr_add, Nat.add_zero, Nat.zero_add]
    simp only [if_neg e] at hK
    refine st_next a1 hk fun w4 a4 s4 _ => ?_
    exact ans_ok (r := Rs.zero) a4 (hr.stp s4 ht) ht fun w6 a6 _ o6 _ => hK w6 (stp_ans (s1.trans s4) (Nat.le_refl _) o6) a6

end Go.M

/- What the functions of the front do: a new one. -/
set_option linter.all false
set_option linter.constructorNameAsVariable false
set_option maxRecDepth 100000
namespace Go.M
open Go Go.Eng Go.RowKit

variable {w w' w1 w2 : World} {d d' d2 : FIds} {f f2 : FrontC} {K : Value → World → Prop} {k : Nat} {c : Cf}

/-- a front of which i threads have a box -/
structure FPre (w : World) (d : FIds) (f : FrontC) (i : Nat) : Prop where
  hd : FrontHAt w d.fb d.tb f.h
  core : f.h.core = some ⟨d.c.cb, 0, none⟩
  ring : f.h.ring = some ⟨d.rb, 0, none⟩
  lock : f.h.lock = some ⟨d.kb, 0, none⟩
  ca : CAt w d.c f.ch f.cn f.T f.rows f.log
  ra : RingAt w d.rb d.sb f.r
  la : LockAt w d.kb f.lk
  box : ∀ k, k < i → f.h.box k = some ⟨d.bx k, 0, none⟩ ∧ BoxAt w (d.bx k) (f.bs k)
  act : ∀ k, f.h.act k = none
  ap : f.ap = []
  app : w.cell? ⟨d.fb, 5, none⟩ = some (.slice none 0 0)
  ao : d.ao = none
  t_fb : d.tag d.fb = .front
  t_tb : d.tag d.tb = .threads
  t_rb : d.tag d.rb = .ring
  t_sb : d.tag d.sb = .slots
  t_kb : d.tag d.kb = .lock
  t_c : ∀ b ∈ d.c.list, d.tag b = .core
  t_bx : ∀ k, k < i → d.tag (d.bx k) = .box k
  t_new : ∀ b, w.heap.size ≤ b → d.tag b = .other

theorem FPre.only0 {i : Nat} (a : FPre w d f i) (ho : Only [] w w') : FPre w' d f i :=
  ⟨a.hd.only ho (by simp) (by simp), a.core, a.ring, a.lock, a.ca.only ho (by simp), a.ra.only ho (by simp) (by simp), a.la.only ho (by simp), fun k hk => ⟨(a.box k hk).1, (a.box k hk).2.only ho (by simp)⟩, a.act, a.ap, ho.cell a.app (by simp), a.ao, a.t_fb, a.t_tb, a.t_rb, a.t_sb, a.t_kb, a.t_c, a.t_bx, fun b hb => a.t_new b (Nat.le_trans ho.size hb)⟩

theorem FPre.done (a : FPre w d f f.h.n) : FAt w d f :=
  ⟨a.hd, a.core, a.ring, a.lock, a.ca, a.ra, a.la, a.box, fun k _ hn => absurd (a.act k) hn, ⟨_, a.app, (by rw [a.ap]; exact ⟨rfl, .inl ⟨rfl, rfl⟩⟩), (by rw [a.ao]; rfl)⟩, a.t_fb, a.t_tb, a.t_rb, a.t_sb, a.t_kb, (fun g hg => by rw [a.ao] at hg; cases hg), a.t_c, a.t_bx, a.t_new⟩

theorem FPre.step {i b : Nat} (a : FPre w d f i) (hi : i < f.h.n) (hb : BoxAt w b BoxM.new) (hnew : d.tag b = .other) :
    FPre (w.setCell ⟨d.tb, i * 14 + 5, none⟩ (.pointer (some ⟨b, 0, none⟩))) { d with bx := upd d.bx i b, tag := upd d.tag b (.box i) } { f with h := { f.h with box := upd f.h.box i (some ⟨b, 0, none⟩) }, bs := upd f.bs i BoxM.new } (i + 1) := by
  have ho : Only [d.tb] w (w.setCell ⟨d.tb, i * 14 + 5, none⟩ (.pointer (some ⟨b, 0, none⟩))) := (Only.refl _ w).st (.inl (by simp)) (a.hd.c_box i hi)
  have no : ∀ b x, d.tag b = x → x ≠ .threads → b ∉ [d.tb] := fun b x hx hne hb => by
    have e : b = d.tb := by simpa using hb
    exact hne (by rw [← hx, e, a.t_tb])
  have tg : ∀ x y, d.tag x = y → y ≠ .other → upd d.tag b (.box i) x = y := fun x y hx hy => by
    rw [upd_other (fun e => hy (by rw [← hx, e, hnew]))]; exact hx
  refine ⟨a.hd.set_box hi _, a.core, a.ring, a.lock, a.ca.only ho fun b hb => no b _ (a.t_c b hb) (by simp), a.ra.only ho (no _ _ a.t_rb (by simp)) (no _ _ a.t_sb (by simp)), a.la.only ho (no _ _ a.t_kb (by simp)),
    fun j hj => ?_, a.act, a.ap, ho.cell a.app (no _ _ a.t_fb (by simp)), a.ao, tg _ _ a.t_fb (by simp), tg _ _ a.t_tb (by simp), tg _ _ a.t_rb (by simp), tg _ _ a.t_sb (by simp), tg _ _ a.t_kb (by simp), fun x hx => tg _ _ (a.t_c x hx) (by simp), fun j hj => ?_, fun x hx => by
    have h5 := hb.lt_pb
    have h6 := ho.size
    exact (upd_other (show x ≠ b by omega)).trans (a.t_new x (by omega))⟩
  · show upd f.h.box i (some ⟨b, 0, none⟩) j = some ⟨upd d.bx i b j, 0, none⟩ ∧ BoxAt _ (upd d.bx i b j) (upd f.bs i BoxM.new j)
    by_cases e : j = i
    · subst e; simp only [upd_same]; exact ⟨trivial, hb.only ho (no _ _ hnew (by simp))⟩
    · rw [upd_other e, upd_other e, upd_other e]
      obtain ⟨h1, h2⟩ := a.box j (by omega)
      exact ⟨h1, h2.only ho (no _ _ (a.t_bx j (by omega)) (by simp))⟩
  · show upd d.tag b (.box i) (upd d.bx i b j) = .box j
    by_cases e : j = i
    · subst e; rw [upd_same, upd_same]
    · rw [upd_other e]; exact tg _ _ (a.t_bx j (by omega)) (by simp)

def thZ : List Value := [.int .i64 0, .int .u8 0, .int .i64 0, .int .i64 0, .int .i64 0, .pointer none, .pointer none, .int .i64 0, .int .i64 0, .int .u8 0, .int .u64 0, .int .i64 0, .int .i64 0, .int .i64 0]

def FrontHM.new (n : Nat) (core ring lock : Option Addr) : FrontHM :=
  ⟨n, core, ring, lock, 0, fun _ => 0, fun _ => 0, fun _ => 0, fun _ => 0, fun _ => 0, fun _ => none, fun _ => none, fun _ => 0, fun _ => 0, fun _ => 0, fun _ => 0, fun _ => 0, fun _ => 0, fun _ => 0⟩

theorem frontH_new {tb m : Nat} (hz : Zeros w tb m 14 thZ) (p q l : Option Addr) :
    FrontHAt (w.alloc (.cells #[(.pointer p), (.pointer q), (.pointer l), (.slice (some ⟨tb, 0, none⟩) m m), (.int .i64 0), (.slice none 0 0)] 153)) w.heap.size tb (FrontHM.new m p q l) := by
  have hlt := hz.lt
  have hne : tb ≠ w.heap.size := by omega
  have hc : ∀ i k, i < m → k < 14 → (w.alloc (.cells #[(.pointer p), (.pointer q), (.pointer l), (.slice (some ⟨tb, 0, none⟩) m m), (.int .i64 0), (.slice none 0 0)] 153)).cell? ⟨tb, i * 14 + k, none⟩ = thZ[k]? := fun i k hi hk => by
    rw [cell_new, if_neg hne]; exact hz.cell i k hi hk
  constructor
  case ne_pb_tb => omega
  case z_pb => intro i; simp [frozen_new]
  case z_tb => intro i; rw [frozen_new, if_neg hne]; exact hz.fr i
  case lt_pb => rw [World.size_alloc]; omega
  case lt_tb => rw [World.size_alloc]; omega
  case c_next => intro i hi; exact hc i 0 hi (by omega)
  case c_kind => intro i hi; exact hc i 1 hi (by omega)
  case c_tier => intro i hi; exact hc i 2 hi (by omega)
  case c_cohort => intro i hi; exact hc i 3 hi (by omega)
  case c_num => intro i hi; exact hc i 4 hi (by omega)
  case c_box => intro i hi; exact hc i 5 hi (by omega)
  case c_act => intro i hi; exact hc i 6 hi (by omega)
  case c_left => intro i hi; exact hc i 7 hi (by omega)
  case c_whose => intro i hi; exact hc i 8 hi (by omega)
  case c_answer => intro i hi; exact hc i 9 hi (by omega)
  case c_ticket => intro i hi; exact hc i 10 hi (by omega)
  case c_rtier => intro i hi; exact hc i 11 hi (by omega)
  case c_rcohort => intro i hi; exact hc i 12 hi (by omega)
  case c_sojourn => intro i hi; exact hc i 13 hi (by omega)
  all_goals (rw [cell_new, if_pos rfl]; rfl)

/-- all but the boxes of a new front -/
def FrontC.new (c : Cf) (n : Nat) (dc : CIds) (rb kb : Nat) (r : RingM) : FrontC where
  h := FrontHM.new n (some ⟨dc.cb, 0, none⟩) (some ⟨rb, 0, none⟩) (some ⟨kb, 0, none⟩)
  bs := fun _ => BoxM.new
  av := fun _ => ActM.pop none
  r := r
  lk := ⟨0⟩
  ap := []
  ch := CoreHM.new c (some ⟨dc.q.qb, 0, none⟩) (some ⟨dc.lb, 0, none⟩)
  cn := c.room.toNat
  T := 0
  rows := fun _ => []
  log := []

/-- a front but for what its boxes are -/
structure NewF (c : Cf) (f : FrontC) : Prop where
  n : (f.h.n : Int) = c.threads
  clock : f.h.clock = 0
  next : ∀ k, f.h.next k = 0
  whose : ∀ k, f.h.whose k = 0
  left : ∀ k, f.h.left k = 0
  act : ∀ k, f.h.act k = none
  bs : ∀ k, f.bs k = BoxM.new
  rn : (f.r.n : Int) = c.ring
  tail : f.r.tail = 0
  head : f.r.head = 0
  number : ∀ j, j < f.r.n → f.r.number j = j
  lk : f.lk.owner = 0
  ap : f.ap = []
  ch : ∃ q lg, f.ch = CoreHM.new c q lg
  cn : f.cn = c.room.toNat
  T : f.T = 0
  rows : ∀ t, f.rows t = []
  log : f.log = []

theorem boxes_ok {w0 : World} {n : Nat} (hn : n ≤ 16) {d0 : FIds} {f0 : FrontC} (ho : Only [] w0 w) (a : FPre w d0 f0 0) (h0 : f0.h.n = n) (hb0 : ∀ k, f0.bs k = BoxM.new) (hl : w0.heap.size ≤ d0.tb)
    (hK : ∀ w' d' bx' box', Only [] w0 w' → d'.fb = d0.fb → d'.tb = d0.tb → (∀ b, d'.tag b ≠ .other → d0.tag b ≠ .other ∨ w.heap.size ≤ b) → FAt w' d' { f0 with h := { f0.h with box := box' }, bs := bx' } → (∀ k, bx' k = BoxM.new) → K (.tuple #[.pointer (some ⟨d0.fb, 0, none⟩), .int .i64 0]) w') :
    LoopP m_front_New_l506 [.pointer (some ⟨d0.fb, 0, none⟩), .int .i64 (n : Int), .int .i64 0] w fun y w' => m_front_New_l506_o y fun f => K (.tuple #[.pointer (some f), .int .i64 0]) w' := by
  refine loop_count n (fun i w' => Only [] w0 w' ∧ w.heap.size ≤ w'.heap.size ∧ ∃ d' bx' box', d'.fb = d0.fb ∧ d'.tb = d0.tb ∧ (∀ b, d'.tag b ≠ .other → d0.tag b ≠ .other ∨ w.heap.size ≤ b) ∧ FPre w' d' { f0 with h := { f0.h with box := box' }, bs := bx' } i ∧ ∀ k, bx' k = BoxM.new)
    (fun i => [.pointer (some ⟨d0.fb, 0, none⟩), .int .i64 (n : Int), .int .i64 (i : Int)]) ?_ ?_ ⟨ho, Nat.le_refl _, d0, f0.bs, f0.h.box, rfl, rfl, fun b hb => .inl hb, a, hb0⟩
  · rintro i w' next hi ⟨h1, hsz, d', bx', box', e1, e2, hT, a', hbx⟩ hnext
    unfold m_front_New_l506
    simp only
    refine if_yes (by simpa using hi) ?_
    have oD : Only [] w' w'.drew := Only.drew w'
    have aD := a'.only0 oD
    simp only [addr_add, Nat.add_zero, Nat.zero_add]
    have ths : w'.drew.cell? ⟨d0.fb, 3, none⟩ = some (.slice (some ⟨d0.tb, 0, none⟩) n n) := by
      have := aD.hd.h_ths
      rw [← e1, ← e2, ← h0]; exact this
    refine ld_slice ths (newBox_ok fun w2 o2 z2 b2 => ⟨_, rfl, o2.cell ths (by simp), ix_nat hi ?_⟩)
    have a2 := aD.only0 o2
    simp only [addr_add, Nat.add_zero, Nat.zero_add, Int.toNat_natCast]
    rw [← e2, IntWalk.i64_in _ (by omega)]
    have hi' : i < ({ f0 with h := { f0.h with box := box' }, bs := bx' } : FrontC).h.n := by show i < f0.h.n; omega
    have hs := a2.step hi' b2 (aD.t_new _ (Nat.le_refl _))
    refine St_at (a2.hd.c_box i hi') (a2.hd.z_tb _) (hnext _ ⟨((h1.trans oD).trans o2).st (.inr (by rw [e2]; exact hl)) (a2.hd.c_box i hi'), ?_, { d' with bx := upd d'.bx i w'.drew.heap.size, tag := upd d'.tag w'.drew.heap.size (.box i) }, upd bx' i BoxM.new, upd box' i (some ⟨w'.drew.heap.size, 0, none⟩), e1, e2, fun b hb => ?_, hs, fun k => ?_⟩)
    · have := oD.size; have := o2.size; rw [size_setCell]; omega
    · have hb' : upd d'.tag w'.drew.heap.size (.box i) b ≠ .other := hb
      by_cases e : b = w'.drew.heap.size
      · right; have := oD.size; omega
      · rw [upd_other e] at hb'; exact hT b hb'
    · show upd bx' i BoxM.new k = _
      by_cases e : k = i
      · subst e; rw [upd_same]
      · rw [upd_other e]; exact hbx k
  · rintro w' next ⟨h1, hsz, d', bx', box', e1, e2, hT, a', hbx⟩
    unfold m_front_New_l506
    simp only
    refine if_no (by simp) ?_
    simp only [m_front_New_l506_o]
    exact hK w' d' bx' box' h1 e1 e2 hT (FPre.done (by rw [← h0] at a'; exact a')) hbx

end Go.M

/- What the functions of the front do: front.New as a whole; nil fronts. -/
set_option linter.all false
set_option linter.constructorNameAsVariable false
set_option maxRecDepth 100000
namespace Go.M
open Go Go.Eng Go.RowKit

variable {w w' w1 w2 : World} {d d' d2 : FIds} {f f2 : FrontC} {K : Value → World → Prop} {k : Nat} {c : Cf}

theorem frontNew_bad (hv : ¬ c.Ok) (hK : ∀ w', Only [] w w' → K (.tuple #[.pointer none, .int .i64 1]) w') : CallsV P 16 #[.agg c.cells] w K := by
  refine m_front_New_ok ?_
  unfold m_front_New
  have a0 := cf_new w c 24
  have o0 : Only [] w (w.alloc (.cells c.cells 24)) := Only.alloc _ _
  refine al_intro ?_
  simp only [addr_add, Nat.zero_add]
  refine cf_load a0 (coreNew_bad (c := c) hv fun w1 o1 => ⟨_, _, rfl, if_yes (by simp) (hK _ (o0.trans o1))⟩)

def newTag (dc : CIds) (fb tb rb sb kb : Nat) (b : Nat) : Tg :=
  if b = fb then .front else if b = tb then .threads else if b = rb then .ring else if b = sb then .slots else if b = kb then .lock else if b ∈ dc.list then .core else .other

theorem front_fin {w0 w5 : World} {tn : Nat} (hn : tn ≤ 16) (ho : Only [] w0 w5) {dc : CIds} {rb sb kb tb : Nat} {r : RingM} {ch : CoreHM} {cn : Nat}
    (ca : CAt w5 dc ch cn 0 (fun _ => []) []) (ra : RingAt w5 rb sb r) (la : LockAt w5 kb ⟨0⟩) (hz : Zeros w5 tb tn 14 thZ)
    (hc : ∀ b ∈ dc.list, w0.heap.size ≤ b ∧ b ≠ rb ∧ b ≠ sb ∧ b ≠ kb ∧ b ≠ tb) (h1 : rb ≠ kb) (h2 : rb ≠ tb) (h3 : sb ≠ kb) (h4 : sb ≠ tb) (h5 : kb ≠ tb) (n1 : w0.heap.size ≤ rb) (n2 : w0.heap.size ≤ sb) (n3 : w0.heap.size ≤ kb) (n4 : w0.heap.size ≤ tb)
    (hK : ∀ w' d bx box, Only [] w0 w' → (∀ b, d.tag b ≠ .other → w0.heap.size ≤ b) → d.fb = w5.heap.size →
      FAt w' d { h := { FrontHM.new tn (some ⟨dc.cb, 0, none⟩) (some ⟨rb, 0, none⟩) (some ⟨kb, 0, none⟩) with box := box }, bs := bx, av := fun _ => ActM.pop none, r := r, lk := ⟨0⟩, ap := [], ch := ch, cn := cn, T := 0, rows := fun _ => [], log := [] } →
      (∀ k, bx k = BoxM.new) → K (.tuple #[.pointer (some ⟨d.fb, 0, none⟩), .int .i64 0]) w') :
    Al #[(.pointer (some ⟨dc.cb, 0, none⟩)), (.pointer (some ⟨rb, 0, none⟩)), (.pointer (some ⟨kb, 0, none⟩)), (.slice (some ⟨tb, 0, none⟩) tn tn), (.int .i64 0), (.slice none 0 0)] 153 w5 fun b53 w54 =>
      ∃ (sA : Option Addr) (sL sC : Nat), w54.cell? ⟨b53, 3, none⟩ = some (.slice sA sL sC) ∧ LoopP m_front_New_l506 [.pointer (some ⟨b53, 0, none⟩), .int .i64 ((sL : Nat) : Int), .int .i64 0] w54 fun y w' => m_front_New_l506_o y fun f => K (.tuple #[.pointer (some f), .int .i64 0]) w' := by
  refine al_intro ?_
  obtain ⟨w6, hw6⟩ : ∃ w6, w5.alloc (.cells #[(.pointer (some ⟨dc.cb, 0, none⟩)), (.pointer (some ⟨rb, 0, none⟩)), (.pointer (some ⟨kb, 0, none⟩)), (.slice (some ⟨tb, 0, none⟩) tn tn), (.int .i64 0), (.slice none 0 0)] 153) = w6 := ⟨_, rfl⟩
  have o6 : Only [] w5 w6 := by rw [← hw6]; exact Only.alloc _ _
  have fh : FrontHAt w6 w5.heap.size tb (FrontHM.new tn (some ⟨dc.cb, 0, none⟩) (some ⟨rb, 0, none⟩) (some ⟨kb, 0, none⟩)) := by rw [← hw6]; exact frontH_new hz _ _ _
  have happ : w6.cell? ⟨w5.heap.size, 5, none⟩ = some (.slice none 0 0) := by rw [← hw6, cell_new, if_pos rfl]; rfl
  have sz6 : w6.heap.size = w5.heap.size + 1 := by rw [← hw6, World.size_alloc]
  rw [hw6]
  refine ld_slice fh.h_ths ?_
  have lc := ca.lt
  have l1 := ra.lt_pb
  have l2 := ra.lt_sb
  have l3 := la.lt_pb
  have l4 := hz.lt
  have s05 := ho.size
  have hne := ra.ne_pb_sb
  have T := newTag dc w5.heap.size tb rb sb kb
  have pre : FPre w6 ⟨w5.heap.size, tb, rb, sb, kb, none, dc, fun _ => 0, fun _ => 0, newTag dc w5.heap.size tb rb sb kb⟩ { h := FrontHM.new tn (some ⟨dc.cb, 0, none⟩) (some ⟨rb, 0, none⟩) (some ⟨kb, 0, none⟩), bs := fun _ => BoxM.new, av := fun _ => ActM.pop none, r := r, lk := ⟨0⟩, ap := [], ch := ch, cn := cn, T := 0, rows := fun _ => [], log := [] } 0 := by
    refine ⟨fh, rfl, rfl, rfl, ca.only o6 (by simp), ra.only o6 (by simp) (by simp), la.only o6 (by simp), fun k hk => absurd hk (by omega), fun _ => rfl, rfl, happ, rfl, ?_, ?_, ?_, ?_, ?_, fun b hb => ?_, fun k hk => absurd hk (by omega), fun b hb => ?_⟩
    · exact if_pos rfl
    · show newTag _ _ _ _ _ _ tb = _
      unfold newTag
      rw [if_neg (by omega), if_pos rfl]
    · show newTag _ _ _ _ _ _ rb = _
      unfold newTag
      rw [if_neg (by omega), if_neg h2, if_pos rfl]
    · show newTag _ _ _ _ _ _ sb = _
      unfold newTag
      rw [if_neg (by omega), if_neg h4, if_neg (Ne.symm hne), if_pos rfl]
    · show newTag _ _ _ _ _ _ kb = _
      unfold newTag
      rw [if_neg (by omega), if_neg h5, if_neg (Ne.symm h1), if_neg (Ne.symm h3), if_pos rfl]
    · show newTag _ _ _ _ _ _ b = _
      obtain ⟨_, g1, g2, g3, g4⟩ := hc b hb
      have := lc b hb
      unfold newTag
      rw [if_neg (by omega), if_neg g4, if_neg g1, if_neg g2, if_neg g3, if_pos hb]
    · show newTag _ _ _ _ _ _ b = _
      unfold newTag
      rw [if_neg (by omega), if_neg (by omega), if_neg (by omega), if_neg (by omega), if_neg (by omega), if_neg (fun h => by have := lc b h; omega)]
  refine boxes_ok (n := tn) (w0 := w0) hn (ho.trans o6) pre rfl (fun _ => rfl) n4 fun w' d' bx' box' o' e1 e2 hT a' hb' => ?_
  rw [← e1]
  refine hK w' d' bx' box' o' (fun b hb => ?_) e1 a' hb'
  rcases hT b hb with h | h
  · have h' : newTag dc w5.heap.size tb rb sb kb b ≠ .other := h
    unfold newTag at h'
    by_cases c1 : b = w5.heap.size
    · omega
    rw [if_neg c1] at h'
    by_cases c2 : b = tb
    · omega
    rw [if_neg c2] at h'
    by_cases c3 : b = rb
    · omega
    rw [if_neg c3] at h'
    by_cases c4 : b = sb
    · omega
    rw [if_neg c4] at h'
    by_cases c5 : b = kb
    · omega
    rw [if_neg c5] at h'
    by_cases c6 : b ∈ dc.list
    · exact (hc b c6).1
    rw [if_neg c6] at h'
    exact absurd rfl h'
  · omega

theorem frontNew_ok (hv : c.Ok) (hK : ∀ w' d f, Only [] w w' → (∀ b, d.tag b ≠ .other → w.heap.size ≤ b) → FAt w' d f → NewF c f → K (.tuple #[.pointer (some ⟨d.fb, 0, none⟩), .int .i64 0]) w') : CallsV P 16 #[.agg c.cells] w K := by
  refine m_front_New_ok ?_
  unfold m_front_New
  have a0 := cf_new w c 24
  have o0 : Only [] w (w.alloc (.cells c.cells 24)) := Only.alloc _ _
  refine al_intro ?_
  obtain ⟨w00, hw00⟩ : ∃ w00, w.alloc (.cells c.cells 24) = w00 := ⟨_, rfl⟩
  rw [hw00] at a0 o0
  simp only [Cf.cells] at hw00
  rw [hw00]
  simp only [addr_add, Nat.zero_add]
  refine cf_load a0 (coreNew_ok (c := c) hv fun w1 dc o1 n1 ca1 => ⟨_, _, rfl, if_no (by simp) ?_⟩)
  have a1 := a0.only o1 (by simp)
  refine ld_int a1.c15 ?_
  obtain ⟨t1, t2⟩ := hv.threads
  obtain ⟨r1, r2⟩ := hv.ring
  have hp := hv.pow
  obtain ⟨tn, htn⟩ := Int.eq_ofNat_of_zero_le (show 0 ≤ c.threads by omega)
  obtain ⟨rn, hrn⟩ := Int.eq_ofNat_of_zero_le (show 0 ≤ c.ring by omega)
  rw [hrn] at hp
  rw [hrn]
  refine ringNew_ok (by omega) (by omega) hp fun w2 rb sb r o2 l1 l2 ra e1 e2 e3 e4 e5 => ⟨_, _, rfl, ?_⟩
  have oD : Only [] w2 w2.drew := Only.drew w2
  have a2 := (a1.only o2 (by simp)).only oD (by simp)
  have caD := (ca1.only o2 (by simp)).only oD (by simp)
  have raD := ra.only oD (by simp) (by simp)
  obtain ⟨W, hW⟩ : ∃ W, w2.drew = W := ⟨_, rfl⟩
  have o01 := o0.trans o1
  have o02 := o01.trans o2
  have o0W : Only [] w W := by rw [← hW]; exact o02.trans oD
  rw [hW] at oD a2 caD raD ⊢
  refine ld_int a2.c14 ?_
  rw [htn]
  have lt1 := ca1.lt
  have s01 := o01.size
  have s2 := o2.size
  have sD := oD.size
  have hsz := o0W.size
  have lrb := raD.lt_pb
  have lsb := raD.lt_sb
  have ltc := caD.lt
  have thz : (ti158.zero.cells).toList = thZ := rfl
  have hcl : ∀ b ∈ dc.list, w.heap.size ≤ b := fun b hb => by have := n1 b hb; have := o0.size; omega
  have fin : ∀ w5 kb tb, Only [] W w5 → W.heap.size ≤ kb → W.heap.size ≤ tb → kb ≠ tb → Zeros w5 tb tn 14 thZ → LockAt w5 kb ⟨0⟩ → _ := fun w5 kb tb o5 g1 g2 g3 hz la =>
    front_fin (w0 := w) (K := K) (tn := tn) (by omega) (o0W.trans o5) (caD.only o5 (by simp)) (raD.only o5 (by simp) (by simp)) la hz
      (fun b hb => ⟨hcl b hb, by have := lt1 b hb; omega, by have := lt1 b hb; omega, by have := ltc b hb; omega, by have := ltc b hb; omega⟩) (by omega) (by omega) (by omega) (by omega) g3 (by omega) (by omega) (by omega) (by omega)
      fun w' d bx box o' hT _ a' hb => hK w' d _ o' hT a' ⟨htn.symm, rfl, fun _ => rfl, fun _ => rfl, fun _ => rfl, fun _ => rfl, hb, by show (r.n : Int) = _; rw [e1, hrn], e2, e3, fun j hj => e4 j (by have : j < r.n := hj; omega), rfl, rfl, ⟨_, _, rfl⟩, rfl, rfl, fun _ => rfl, rfl⟩
  refine ⟨?_, ?_⟩
  · refine newLock_ok fun w3 o3 z3 l3 => ⟨_, rfl, (by rw [← htn]; exact (a2.only o3 (by simp)).c14), ?_⟩
    refine make_ok W2 (t := 146) (e := 158) (ti := ti158) rfl rfl rfl (by simp [ti158]; omega) (by omega) ⟨_, _, _, rfl, ?_⟩
    have hz := zeros_made w3 ti158.zero.cells tn 14 158 rfl (by omega)
    rw [thz] at hz
    obtain ⟨w4, hw4⟩ : ∃ w4, w3.alloc (.cells (madeCells ti158.zero.cells (tn * ti158.size)) 158) = w4 := ⟨_, rfl⟩
    have o4 : Only [] w3 w4 := by rw [← hw4]; exact Only.alloc _ _
    have hz4 : Zeros w4 w3.heap.size tn 14 thZ := by rw [← hw4]; exact hz
    rw [hw4]
    exact fin w4 W.heap.size w3.heap.size (o3.trans o4) (Nat.le_refl _) (by omega) (by omega) hz4 (l3.only o4 (by simp))
  · refine make_ok W2 (t := 146) (e := 158) (ti := ti158) rfl rfl rfl (by simp [ti158]; omega) (by omega) ⟨_, _, _, rfl, ?_⟩
    have hz := zeros_made W ti158.zero.cells tn 14 158 rfl (by omega)
    rw [thz] at hz
    obtain ⟨w4, hw4⟩ : ∃ w4, W.alloc (.cells (madeCells ti158.zero.cells (tn * ti158.size)) 158) = w4 := ⟨_, rfl⟩
    have o4 : Only [] W w4 := by rw [← hw4]; exact Only.alloc _ _
    have hz4 : Zeros w4 W.heap.size tn 14 thZ := by rw [← hw4]; exact hz
    rw [hw4]
    have z4 := hz4.lt
    refine newLock_ok fun w3 o3 z3 l3 => ⟨_, rfl, ?_⟩
    exact fin w3 w4.heap.size W.heap.size (o4.trans o3) (by omega) (Nat.le_refl _) (by omega) (hz4.only rfl o3 (by simp)) l3

end Go.M

/- What the functions of the core do: one comes, and there is room. -/
set_option linter.all false
set_option linter.constructorNameAsVariable false
set_option maxRecDepth 100000
namespace Go.M
open Go Go.Eng Go.RowKit

variable {w w' : World} {d : CIds} {h h' : CoreHM} {n : Nat} {T : Int} {rows : Nat → List (Int × Rq)} {log : List Oc} {K : Value → World → Prop} {c : Cf}

/-- the request of a call -/
def reqOf (h : CoreHM) (op : Opn) : Rq := ⟨h.ticket + 1, op.tier, op.cohort, min op.num (sat (h.clock + h.horizon)), h.clock⟩

theorem CIds.sub_hd (d : CIds) : ∀ x ∈ [d.cb, d.tb], x ∈ d.list := fun x hx => by
  simp only [List.mem_cons, List.not_mem_nil, or_false] at hx
  rcases hx with rfl | rfl <;> simp [CIds.list]
theorem CIds.sub_q (d : CIds) : ∀ x ∈ d.q.list, x ∈ d.list := fun x hx => by simp [CIds.list, hx]

theorem submit15_ok {w0 wb1 wb2 : World} {ob pb : Nat} {op : Opn} {r0 : Rs} (a : CAt w d h n T rows log) (hcf : h.cf.Ok) (hc : i64 h.clock) (htk : 0 ≤ h.ticket ∧ h.ticket + 1 ≤ 1000000000) (hT : T + 1 ≤ 4294967295) {t : Nat} (ht : t < h.n) (hot : op.tier = t) (hfull : (allR rows h.n).length < n)
    (ro : Rec d.list w0 wb1 w ob op.cells) (rp : Rec d.list w0 wb2 w pb r0.cells) (hne : ob ≠ pb) (hlt : ∀ b ∈ d.list, b < w0.heap.size) {out : Nat × List Value → World → Prop}
    (hK : ∀ w' q' x, q'.qb = d.q.qb → (∀ b ∈ q'.list, b ∈ d.q.list ∨ w.heap.size ≤ b) → CAt w' { d with q := q' } { h with ticket := h.ticket + 1 } n (T + 1) (upd rows t (rows t ++ [(x, reqOf h op)])) log →
      (∃ wb, Rec d.list w0 wb w' pb (Rs.cells ⟨1, h.ticket + 1, op.tier, op.cohort, 0⟩)) → out (0, [.pointer (some ⟨pb, 0, none⟩)]) w') :
    m_core_Core_submit_c15 [.pointer (some ⟨d.cb, 0, none⟩), .pointer (some ⟨ob, 0, none⟩), .pointer (some ⟨pb, 0, none⟩)] w out := by
  unfold m_core_Core_submit_c15
  have hob : ∀ {T : List Nat}, (∀ x ∈ T, x ∈ d.list) → ob ∉ T := fun hT hc => by have := hlt _ (hT _ hc); have := ro.new; omega
  have hpb : ∀ {T : List Nat}, (∀ x ∈ T, x ∈ d.list) → pb ∉ T := fun hT hc => by have := hlt _ (hT _ hc); have := rp.new; omega
  refine nn_some ?_
  simp only [addr_add, Nat.add_zero, Nat.zero_add]
  refine ld_int a.hd.h_ticket (nn_some ?_)
  simp only [addr_add, Nat.add_zero, Nat.zero_add]
  have ew : IntKind.wrap .u64 (h.ticket + 1) = h.ticket + 1 := IntWalk.u64_in _ (by omega)
  rw [ew]
  have o1 : Only [d.cb, d.tb] w (w.setCell ⟨d.cb, 25, none⟩ (.int .u64 (h.ticket + 1))) := (Only.refl _ w).st (.inl (by simp)) a.hd.h_ticket
  have a1 := a.hdTo o1 (a.hd.set_ticket (h.ticket + 1)) rfl rfl rfl
  refine St_at a.hd.h_ticket (a.hd.z_pb _) (nn_some ?_)
  have o1d := o1.trans (Only.drew _)
  obtain ⟨w1, hw1⟩ : ∃ w1, World.drew (w.setCell ⟨d.cb, 25, none⟩ (.int .u64 (h.ticket + 1))) = w1 := ⟨_, rfl⟩
  have a2 : CAt w1 d { h with ticket := h.ticket + 1 } n T rows log := by rw [← hw1]; exact a1.only (Only.drew (S := []) _) (by simp)
  rw [hw1] at o1d ⊢
  have ro1 := ro.moved o1d (hob d.sub_hd) (fun x hx => .inl (d.sub_hd x hx))
  have rp1 := rp.moved o1d (hpb d.sub_hd) (fun x hx => .inl (d.sub_hd x hx))
  simp only [addr_add, Nat.add_zero, Nat.zero_add]
  refine ld_ptr a2.hd.h_q (nn_some ?_)
  rw [a2.hq]
  simp only [addr_add, Nat.add_zero, Nat.zero_add]
  refine ld_int a2.hd.h_ticket (ro1.int rfl (ro1.int rfl (nn_some ?_)))
  simp only [addr_add, Nat.add_zero, Nat.zero_add]
  refine cf_load (core_cf a2.hd) (nn_some ?_)
  simp only [addr_add, Nat.add_zero, Nat.zero_add]
  have hh : i64 h.horizon := by have := hcf.horizon; have := hcf.target; unfold i64; simp only [CoreHM.cf] at *; omega
  refine ld_int a2.hd.h_clock (ro1.int rfl ⟨_, qOf fun w1 K hk => deadline_ok (c := h.cf) hc hh hk, nn_some ?_⟩)
  simp only [addr_add, Nat.add_zero, Nat.zero_add]
  refine ld_int a2.hd.h_clock fun w2 hb2 => ?_
  have o2 := onlyBelow hb2
  have a3 := a2.only o2 (by simp)
  have ro2 := ro1.moved o2 (by simp) (by simp)
  have rp2 := rp1.moved o2 (by simp) (by simp)
  refine qPut_ok (r := reqOf h op) a3.qv hT ht hot hfull fun w3 q' x o3 e1 e2 v3 => ⟨_, _, rfl, nn_some ?_⟩
  have a4 := a3.qTo o3 v3 e1 e2
  have ro3 := ro2.moved (o3.trans (Only.drew w3)) (hob d.sub_q) (fun x hx => .inl (d.sub_q x hx))
  have rp3 := rp2.moved (o3.trans (Only.drew w3)) (hpb d.sub_q) (fun x hx => .inl (d.sub_q x hx))
  have a4d := a4.only (Only.drew (S := []) w3) (by simp)
  simp only [addr_add, Nat.add_zero, Nat.zero_add]
  refine ld_int a4d.hd.h_ticket (ro3.int rfl (ro3.int rfl ?_))
  refine res_store rp3 ⟨1, h.ticket + 1, op.tier, op.cohort, 0⟩ fun w4 r4 => ?_
  have s12 : w.heap.size ≤ w2.heap.size := Nat.le_trans o1d.size o2.size
  have l3 := a4d.lt
  have p4 := a4d.only r4.base (fun b hb hc => ?_)
  · exact hK w4 q' x e1 (fun b hb => (e2 b hb).imp id fun h => by omega) p4 ⟨_, r4⟩
  · have e : b = pb := by simpa using hc
    subst e
    have hbl : b ∈ ({ d with q := q' } : CIds).list := hb
    simp only [CIds.list, List.mem_cons, List.mem_append] at hbl
    have hpw : b < w.heap.size := rp.lt
    have hnd : b ∉ d.list := hpb fun x hx => hx
    have hq : b ∈ q'.list → False := fun hq => by
      rcases e2 b hq with h5 | h5
      · exact hnd (d.sub_q b h5)
      · omega
    rcases hbl with h5 | h5 | h5 | h5 | h5
    · exact hnd (by simp [CIds.list, h5])
    · exact hnd (by simp [CIds.list, h5])
    · exact hnd (by simp [CIds.list, h5])
    · exact hnd (by simp [CIds.list, h5])
    · exact hq h5

theorem submitPut_ok {op : Opn} (a : CAt w d h n T rows log) (hcf : h.cf.Ok) (hn : h.n = h.tiers.toNat) (hc : i64 h.clock) (hl : i64 h.plevel) (hph : h.phase = 0) (htk : 0 ≤ h.ticket ∧ h.ticket + 1 ≤ 1000000000) (hT : T + 1 ≤ 4294967295) (hj : judgeM h.cf h.plevel h.clock op.tier op.cohort op.num = 0)
    {t : Nat} (ht : t < h.n) (hot : op.tier = t) (hroom : h.room = n) (hfull : (allR rows h.n).length < n)
    (hK : ∀ w' q' x, Only d.list w w' → q'.qb = d.q.qb → (∀ b ∈ q'.list, b ∈ d.q.list ∨ w.heap.size ≤ b) → CAt w' { d with q := q' } { h with ticket := h.ticket + 1 } n (T + 1) (upd rows t (rows t ++ [(x, reqOf h op)])) log →
      K (Rs.v ⟨1, h.ticket + 1, op.tier, op.cohort, 0⟩) w') : CallsV P 80 #[.pointer (some ⟨d.cb, 0, none⟩), op.v] w K := by
  refine m_core_Core_submit_ok ?_
  unfold m_core_Core_submit
  refine al_intro (al_intro ?_)
  have hlt := a.lt
  obtain ⟨w1, hw1⟩ : ∃ w1, w.alloc (.cells #[.int .u8 op.kind, .int .i64 op.tier, .int .i64 op.cohort, .int .i64 op.num] 32) = w1 := ⟨_, rfl⟩
  have ro : Rec d.list w w1 w1 w.heap.size op.cells := by rw [← hw1]; exact Rec.make (Only.refl _ w) _ _
  rw [hw1]
  obtain ⟨w2, hw2⟩ : ∃ w2, w1.alloc (.cells #[.int .u8 0, .int .u64 0, .int .i64 0, .int .i64 0, .int .i64 0] 42) = w2 := ⟨_, rfl⟩
  have rp : Rec d.list w w2 w2 w1.heap.size (Rs.cells ⟨0, 0, 0, 0, 0⟩) := by rw [← hw2]; exact Rec.make ro.only _ _
  have o12 : Only [] w1 w2 := by rw [← hw2]; exact Only.alloc _ _
  have ro2 := ro.moved o12 (by simp) (by simp)
  have o02 : Only [] w w2 := by rw [← hw2, ← hw1]; exact (Only.alloc _ _).trans (Only.alloc _ _)
  have a2 := a.only o02 (by simp)
  rw [hw2]
  refine nn_some ?_
  simp only [addr_add, Nat.add_zero, Nat.zero_add]
  refine ld_int a2.hd.h_phase (if_no (by simp [hph]) (nn_some ?_))
  have od : Only [] w2 w2.drew := Only.drew w2
  have ad := a2.only od (by simp)
  have ro3 := ro2.moved od (by simp) (by simp)
  have rp3 := rp.moved od (by simp) (by simp)
  simp only [addr_add, Nat.add_zero, Nat.zero_add]
  have h128 : i64 (h.cf.tiers * 128) := by have := hcf.tiers; unfold i64; omega
  refine cf_load (core_cf ad.hd) ⟨_, q_of fun w3 hb3 K hk => coreLevel_ok (ad.hd.only (only_of_below hb3) (by simp) (by simp)) hk, nn_some ?_⟩
  simp only [addr_add, Nat.add_zero, Nat.zero_add]
  refine ld_int ad.hd.h_clock (ro3.int rfl (ro3.int rfl (ro3.int rfl ⟨_, qOf fun w1 K hk => judge_ok (c := h.cf) h128 hl hk, fun w4 hb4 => if_no (by simp [hj]) (nn_some ?_)⟩)))
  have o4 := (onlyBelow hb4).trans (Only.drew (S := []) w4)
  have a4 := ad.only o4 (by simp)
  have ro4 := ro3.moved o4 (by simp) (by simp)
  have rp4 := rp3.moved o4 (by simp) (by simp)
  simp only [addr_add, Nat.add_zero, Nat.zero_add]
  refine ld_ptr a4.hd.h_q ?_
  rw [a4.hq]
  refine ⟨_, q_of fun w3 hb3 K hk => qLen_ok (a4.qv.only (only_of_below hb3) (by simp)) (hk _ (Only.refl _ _)), nn_some ?_⟩
  simp only [addr_add, Nat.add_zero, Nat.zero_add]
  refine ld_int a4.hd.h_room fun w5 hb5 => if_no (by simp; omega) ?_
  have o5 := onlyBelow hb5
  have a5 := a4.only o5 (by simp)
  have ro5 := ro4.moved o5 (by simp) (by simp)
  have rp5 := rp4.moved o5 (by simp) (by simp)
  have hne : w.heap.size ≠ w1.heap.size := by have := ro.lt; omega
  refine submit15_ok a5 hcf hc htk hT ht hot hfull ro5 rp5 hne hlt fun w6 q' x e1 e2 a6 ⟨wb, r6⟩ => ?_
  simp only [m_core_Core_submit_c15_o, addr_add, Nat.add_zero, Nat.zero_add]
  have s5 : w.heap.size ≤ w5.heap.size := ro5.only.size
  exact res_load r6 (hK w6 q' x r6.only e1 (fun b hb => (e2 b hb).imp id fun h => by omega) a6)

end Go.M
