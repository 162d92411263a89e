/- Proofs about the front of the overload controller, part 21: C32 C41 V2. -/
import Derived.Test.YtdodcfbmpmapmaaGreatW20
import Derived.Test.YtdodcfbmpmapmaaGreatW03
import Derived.Test.YtdodcfbmpmapmaaGreatW04
set_option linter.all false
set_option linter.constructorNameAsVariable false
set_option linter.unusedVariables false
/- What the functions of the core do: a call by which one comes, and there is room. -/
set_option linter.all false
set_option linter.constructorNameAsVariable false
set_option maxRecDepth 100000
namespace Go.M
open Go Go.Eng Go.RowKit

variable {w w' : World} {d : CIds} {h h' : CoreHM} {n : Nat} {T : Int} {rows : Nat → List (Int × Rq)} {log : List Oc} {K : Value → World → Prop} {c : Cf}

theorem callFn_ok {f : Nat} {args : List Value} {w : World} {K : Value → World → Prop} (hb : T0.body f = true) (h : CallsV P f args.toArray w K) : CallFn T0 P (.func (.func f) #[] #[]) args w K := by
  refine ⟨hb, ?_⟩
  simpa using h

theorem Rec.any {S : List Nat} {w0 wb w : World} {b : Nat} {vs : List Value} (h : Rec S w0 wb w b vs) {i : Nat} {v : Value} {k : Value → Prop} (hv : vs[i]? = some v) (hk : k v) : ∃ f : Value, w.cell? ⟨b, i, none⟩ = some f ∧ k f := ⟨_, h.cell i _ hv, hk⟩

theorem CAt.keep {S : List Nat} {w0 wb : World} {b : Nat} {vs : List Value} (a : CAt wb d h n T rows log) (hlt : b ∉ d.list) (r : Rec S w0 wb w b vs) : CAt w d h n T rows log :=
  a.only r.base fun x hx hc => hlt (by have : x = b := by simpa using hc
                                       exact this ▸ hx)

theorem doPut_ok {op : Opn} {now : Int} (a : CAt w d h n T rows log) (hcf : h.cf.Ok) (hn : h.n = h.tiers.toNat) {clk : Int} (hclk : clk = if now > h.clock then now else h.clock) (hc : i64 clk) (hl : i64 h.plevel) (hk : op.kind = 0) (hph : h.phase = 0) (htk : 0 ≤ h.ticket ∧ h.ticket + 1 ≤ 1000000000) (hT : T + 1 ≤ 4294967295)
    (hj0 : judgeM h.cf 0 clk op.tier op.cohort op.num = 0) (hj : judgeM h.cf h.plevel clk op.tier op.cohort op.num = 0) (hno : ∀ t, t < h.n → ∀ x r, (x, r) ∈ rows t → clk < r.deadline)
    {t : Nat} (ht : t < h.n) (hot : op.tier = t) (hroom : h.room = n) (hfull : (allR rows h.n).length < n)
    (hK : ∀ w' q' x, Only d.list w w' → q'.qb = d.q.qb → (∀ b ∈ q'.list, b ∈ d.q.list ∨ w.heap.size ≤ b) → CAt w' { d with q := q' } { h with clock := clk, ticket := h.ticket + 1 } n (T + 1) (upd rows t (rows t ++ [(x, reqOf { h with clock := clk } op)])) log →
      K (Rs.v ⟨1, h.ticket + 1, op.tier, op.cohort, 0⟩) w') : CallsV P 27 #[.pointer (some ⟨d.cb, 0, none⟩), .int .i64 now, op.v] w K := by
  refine m_core_Core_Do_ok ?_
  unfold m_core_Core_Do
  refine al_intro (al_intro (if_no (by simp) (nn_some ?_)))
  have hlt := a.lt
  have hnew : ∀ {b : Nat}, w.heap.size ≤ b → b ∉ d.list := fun hb hc => by have := hlt _ hc; omega
  obtain ⟨w1, hw1⟩ : ∃ w1, w.alloc (.cells #[.int .u8 op.kind, .int .i64 op.tier, .int .i64 op.cohort, .int .i64 op.num] 32) = w1 := ⟨_, rfl⟩
  have ro : Rec d.list w w1 w1 w.heap.size op.cells := by rw [← hw1]; exact Rec.make (Only.refl _ w) _ _
  rw [hw1]
  obtain ⟨w2, hw2⟩ : ∃ w2, w1.alloc (.cells #[.int .u8 0, .int .u64 0, .int .i64 0, .int .i64 0, .int .i64 0] 42) = w2 := ⟨_, rfl⟩
  have rp : Rec d.list w w2 w2 w1.heap.size (Rs.cells ⟨0, 0, 0, 0, 0⟩) := by rw [← hw2]; exact Rec.make ro.only _ _
  have o12 : Only [] w1 w2 := by rw [← hw2]; exact Only.alloc _ _
  have ro2 := ro.moved o12 (by simp) (by simp)
  have o02 : Only [] w w2 := by rw [← hw2, ← hw1]; exact (Only.alloc _ _).trans (Only.alloc _ _)
  have a2 := a.only o02 (by simp)
  rw [hw2]
  have hnp : w1.heap.size ∉ d.list := hnew (by have := ro.lt; omega)
  have hno' : w.heap.size ∉ d.list := hnew (Nat.le_refl _)
  have subm : ∀ {b : Nat} {L : List Nat}, b ∉ d.list → (∀ x ∈ L, x ∈ d.list) → b ∉ L := fun h1 h2 h3 => h1 (h2 _ h3)
  simp only [addr_add, Nat.add_zero, Nat.zero_add]
  refine ld_int a2.hd.h_clock (nn_some ?_)
  rw [← hclk]
  simp only [addr_add, Nat.add_zero, Nat.zero_add]
  have o3 : Only [d.cb, d.tb] w2 (w2.setCell ⟨d.cb, 24, none⟩ (.int .i64 clk)) := (Only.refl _ w2).st (.inl (by simp)) a2.hd.h_clock
  have a3 := a2.hdTo o3 (a2.hd.set_clock clk) rfl rfl rfl
  refine St_at a2.hd.h_clock (a2.hd.z_pb _) (al_intro ?_)
  have ro3 := ro2.moved o3 (subm hno' d.sub_hd) (fun x hx => .inl (d.sub_hd x hx))
  have rp3 := rp.moved o3 (subm hnp d.sub_hd) (fun x hx => .inl (d.sub_hd x hx))
  obtain ⟨w3, hw3⟩ : ∃ w3, w2.setCell ⟨d.cb, 24, none⟩ (.int .i64 clk) = w3 := ⟨_, rfl⟩
  rw [hw3] at a3 ro3 rp3 ⊢
  obtain ⟨w4, hw4⟩ : ∃ w4, w3.alloc (.cells #[.nilFunc, .nilFunc, .nilFunc, .nilFunc] 179) = w4 := ⟨_, rfl⟩
  have ra : Rec d.list w w4 w4 w3.heap.size [.nilFunc, .nilFunc, .nilFunc, .nilFunc] := by rw [← hw4]; exact Rec.make ro3.only _ _
  have o34 : Only [] w3 w4 := by rw [← hw4]; exact Only.alloc _ _
  rw [hw4]
  have a4 := a3.only o34 (by simp)
  have ro4 := ro3.moved o34 (by simp) (by simp)
  have rp4 := rp3.moved o34 (by simp) (by simp)
  have l3o := ro3.lt
  have l3p := rp3.lt
  have hna : w3.heap.size ∉ d.list := hnew (Nat.le_trans o02.size (by have := ro3.only.size; have := rp3.lt; have := ro.lt; have := rp.lt; have h5 := o3.size; rw [hw3] at h5; omega))
  refine ra.st (by simp) fun _ ra => ra.st (by simp) fun _ ra => ra.st (by simp) fun _ ra => ra.st (by simp) fun w5 ra5 => ?_
  have ob5 : Only [w3.heap.size] w4 w5 := ra5.base
  have hmo : w.heap.size ∉ [w3.heap.size] := by simp only [List.mem_singleton]; omega
  have hmp : w1.heap.size ∉ [w3.heap.size] := by simp only [List.mem_singleton]; omega
  have hsz3 : ∀ x ∈ [w3.heap.size], x ∈ d.list ∨ w.heap.size ≤ x := fun x hx => by
    have e : x = w3.heap.size := by simpa using hx
    exact .inr (e ▸ ra5.new)
  have ro5 := ro4.moved ob5 hmo hsz3
  have rp5 := rp4.moved ob5 hmp hsz3
  have a5 := a4.keep hna ra5
  have ra5' := ra5.moved (Only.refl [] w5) (by simp) (by simp)
  have ekw : IntKind.wrap .i64 op.kind = 0 := by rw [hk]; exact IntWalk.i64_in 0 (by omega)
  refine ro5.int rfl (if_no (by simp [ekw]) (ro5.int rfl (if_yes (by simp [hk]) (nn_some ?_))))
  simp only [addr_add, Nat.add_zero, Nat.zero_add]
  refine ld_int a5.hd.h_phase ?_
  have hph5 : decide (h.phase = 0) = true := by simp [hph]
  show m_core_Core_Do_c126 [_, _, _, _, .bool (decide (h.phase = 0))] _ _
  rw [hph5]
  unfold m_core_Core_Do_c126
  simp only
  refine if_yes (by simp) (nn_some ?_)
  have od : Only [] w5 w5.drew := Only.drew w5
  have ad := a5.only od (by simp)
  have rod := ro5.moved od (by simp) (by simp)
  simp only [addr_add, Nat.add_zero, Nat.zero_add]
  have h128 : i64 (h.cf.tiers * 128) := by have := hcf.tiers; unfold i64; omega
  refine cf_load (core_cf ad.hd) (nn_some ?_)
  simp only [addr_add, Nat.add_zero, Nat.zero_add]
  refine ld_int ad.hd.h_clock (rod.int rfl (rod.int rfl (rod.int rfl ⟨_, qOf fun w1 K hk => judge_ok (c := h.cf) h128 (by unfold i64; omega) hk, fun w6 hb6 => if_no (by simp [hj0]) ?_⟩)))
  have o56 : Only [] w5 w6 := od.trans (onlyBelow hb6)
  have a6 := a5.only o56 (by simp)
  have ro6 := ro5.moved o56 (by simp) (by simp)
  have rp6 := rp5.moved o56 (by simp) (by simp)
  have ra6 := ra5'.moved o56 (by simp) (by simp)
  simp only [m_core_Core_Do_c126_o]
  unfold m_core_Core_Do_c63
  simp only
  refine sweep_quiet a6 (by show h.phase ≠ 1; omega) hno fun w7 o7 => ⟨rfl, ?_⟩
  have o7d : Only [] w6 w7.drew := o7.trans (Only.drew _)
  have a7 := a6.only o7d (by simp)
  have ro7 := ro6.moved o7d (by simp) (by simp)
  have rp7 := rp6.moved o7d (by simp) (by simp)
  have ra7 := ra6.moved o7d (by simp) (by simp)
  obtain ⟨w8, hw8⟩ : ∃ w8, w7.drew = w8 := ⟨_, rfl⟩
  rw [hw8] at a7 ro7 rp7 ra7 ⊢
  simp only [addr_add, Nat.add_zero, Nat.zero_add]
  refine ro7.int rfl ?_
  rw [hk]
  refine ix_some (by omega) (by omega) ?_
  have e0 : Int.toNat 0 = 0 := rfl
  simp only [addr_add, Nat.add_zero, Nat.zero_add, e0, Nat.zero_mul, Nat.mul_one]
  refine ra7.any rfl ?_
  have hko : op.cells[0]? = some (.int .u8 0) := by simp [Opn.cells, hk]
  refine ro7.int hko (ro7.int rfl (ro7.int rfl (ro7.int rfl ?_)))
  have hargs : (Value.agg #[.int .u8 0, .int .i64 op.tier, .int .i64 op.cohort, .int .i64 op.num]) = op.v := by unfold Opn.v; rw [hk]
  rw [hargs]
  have s8 : w.heap.size ≤ w8.heap.size := ro7.only.size
  have wrap : ∀ {w9 : World} {K' : Value → World → Prop}, Only [] w8 w9 → (∀ w' q' x, Only d.list w9 w' → q'.qb = d.q.qb → (∀ b ∈ q'.list, b ∈ d.q.list ∨ w9.heap.size ≤ b) → CAt w' { d with q := q' } { h with clock := clk, ticket := h.ticket + 1 } n (T + 1) (upd rows t (rows t ++ [(x, reqOf { h with clock := clk } op)])) log →
      K' (Rs.v ⟨1, h.ticket + 1, op.tier, op.cohort, 0⟩) w') → CallFn T0 P (.func (.func 80) #[] #[]) [.pointer (some ⟨d.cb, 0, none⟩), op.v] w9 K' := fun {w9 K'} o9 hk' =>
    callFn_ok rfl (submitPut_ok (a7.only o9 (by simp)) hcf hn hc hl hph htk hT hj ht hot hroom hfull fun w' q' x p1 p2 p3 p4 => hk' w' q' x p1 p2 p3 p4)
  have sub' : ∀ {q' : QIds}, (∀ b ∈ q'.list, b ∈ d.q.list ∨ w8.heap.size ≤ b) → ∀ b ∈ ({ d with q := q' } : CIds).list, b ∈ d.list ∨ w8.heap.size ≤ b := fun {q'} hq b hb => by
    simp only [CIds.list, List.mem_cons, List.mem_append] at hb ⊢
    rcases hb with h5 | h5 | h5 | h5 | h5
    · exact .inl (.inl h5)
    · exact .inl (.inr (.inl h5))
    · exact .inl (.inr (.inr (.inl h5)))
    · exact .inl (.inr (.inr (.inr (.inl h5))))
    · rcases hq b h5 with h6 | h6
      · exact .inl (.inr (.inr (.inr (.inr h6))))
      · exact .inr h6
  have lp8 := rp7.lt
  refine ⟨wrap (Only.refl _ _) fun w9 q' x p1 p2 p3 a9 => ⟨_, _, _, _, _, rfl, al_intro ?_⟩, al_intro ?_⟩
  · have rp9 := rp7.moved p1 hnp (fun x hx => .inl hx)
    obtain ⟨w10, hw10⟩ : ∃ w10, w9.alloc (.cells #[.int .u8 0, .int .u64 0, .int .i64 0, .int .i64 0, .int .i64 0] 42) = w10 := ⟨_, rfl⟩
    have rb : Rec d.list w w10 w10 w9.heap.size (Rs.cells ⟨0, 0, 0, 0, 0⟩) := by rw [← hw10]; exact Rec.make rp9.only _ _
    have o910 : Only [] w9 w10 := by rw [← hw10]; exact Only.alloc _ _
    rw [hw10]
    have a10 := a9.only o910 (by simp)
    have rp10 := rp9.moved o910 (by simp) (by simp)
    have l9 := rp9.lt
    simp only [addr_add, Nat.add_zero, Nat.zero_add]
    refine res_store rb ⟨1, h.ticket + 1, op.tier, op.cohort, 0⟩ fun w11 rb11 => nn_some ?_
    have hbn : w9.heap.size ∉ ({ d with q := q' } : CIds).list := fun hc => by have := a9.lt _ hc; omega
    have a11 := a10.keep hbn rb11
    have rp11 := rp10.moved rb11.base (by simp only [List.mem_singleton]; omega) (fun x hx => .inr (by rw [List.mem_singleton.1 hx]; exact rb11.new))
    simp only [addr_add, Nat.add_zero, Nat.zero_add]
    refine ld_int a11.hd.h_phase (if_no (by simp [hph]) (res_load rb11 ?_))
    refine res_store rp11 ⟨1, h.ticket + 1, op.tier, op.cohort, 0⟩ fun w12 rp12 => ?_
    simp only [m_core_Core_Do_c63_o, addr_add, Nat.add_zero, Nat.zero_add]
    refine res_load rp12 (hK w12 q' x rp12.only p2 (fun b hb => (p3 b hb).imp id fun h => by omega) (a11.keep ?_ rp12))
    intro hc
    rcases sub' p3 _ hc with h5 | h5
    · exact hnp h5
    · omega
  · obtain ⟨w9, hw9⟩ : ∃ w9, w8.alloc (.cells #[.int .u8 0, .int .u64 0, .int .i64 0, .int .i64 0, .int .i64 0] 42) = w9 := ⟨_, rfl⟩
    have rb : Rec d.list w w9 w9 w8.heap.size (Rs.cells ⟨0, 0, 0, 0, 0⟩) := by rw [← hw9]; exact Rec.make rp7.only _ _
    have o89 : Only [] w8 w9 := by rw [← hw9]; exact Only.alloc _ _
    rw [hw9]
    have ro9 := ro7.moved o89 (by simp) (by simp)
    have ra9 := ra7.moved o89 (by simp) (by simp)
    have rp9 := rp7.moved o89 (by simp) (by simp)
    refine ⟨ro9.cell 0 _ hko, ra9.cell 0 _ rfl, ⟨ro9.cell 0 _ hko, ro9.cell 1 _ rfl, ro9.cell 2 _ rfl, ro9.cell 3 _ rfl⟩, wrap o89 fun w10 q' x p1 p2 p3 a10 => ⟨_, _, _, _, _, rfl, ?_⟩⟩
    have hbd : w8.heap.size ∉ d.list := hnew s8
    have rb10 := rb.moved p1 hbd (fun x hx => .inl hx)
    have rp10 := rp9.moved p1 hnp (fun x hx => .inl hx)
    have lb := rb.lt
    simp only [addr_add, Nat.add_zero, Nat.zero_add]
    refine res_store rb10 ⟨1, h.ticket + 1, op.tier, op.cohort, 0⟩ fun w11 rb11 => nn_some ?_
    have a11 : CAt w11 _ _ _ _ _ _ := a10.keep (fun hc => ?_) rb11
    · have rp11 := rp10.moved rb11.base (by simp only [List.mem_singleton]; omega) (fun x hx => .inr (by rw [List.mem_singleton.1 hx]; exact rb11.new))
      simp only [addr_add, Nat.add_zero, Nat.zero_add]
      refine ld_int a11.hd.h_phase (if_no (by simp [hph]) (res_load rb11 ?_))
      refine res_store rp11 ⟨1, h.ticket + 1, op.tier, op.cohort, 0⟩ fun w12 rp12 => ?_
      simp only [m_core_Core_Do_c63_o, addr_add, Nat.add_zero, Nat.zero_add]
      refine res_load rp12 (hK w12 q' x rp12.only p2 (fun b hb => (p3 b hb).imp id fun h => by omega) (a11.keep ?_ rp12))
      intro hc
      rcases sub' (fun b hb => (p3 b hb).imp id fun h => Nat.le_trans o89.size h) _ hc with h5 | h5
      · exact hnp h5
      · omega
    · simp only [CIds.list, List.mem_cons, List.mem_append] at hc
      rcases hc with h5 | h5 | h5 | h5 | h5
      · exact hbd (by simp [CIds.list, h5])
      · exact hbd (by simp [CIds.list, h5])
      · exact hbd (by simp [CIds.list, h5])
      · exact hbd (by simp [CIds.list, h5])
      · rcases p3 _ h5 with h6 | h6
        · exact hbd (by simp [CIds.list, h6])
        · omega

end Go.M

/- A front of one call: the steps of awake. -/
set_option linter.all false
set_option linter.constructorNameAsVariable false
set_option maxRecDepth 100000
namespace Go.M
open Go Go.Eng Go.RowKit

variable {w w' w1 w2 : World} {d d' d2 : FIds} {f f2 : FrontC} {K : Value → World → Prop} {k : Nat} {c : Cf}

structure AwS (f : FrontC) (nx st tl hd n0 own lf : Int) (an : Bool) (pops : Bool) (anx aat apl : Int) (dn : Bool) : Prop where
  n : f.h.n = 4
  clock : f.h.clock = 0
  next : f.h.next 0 = nx
  whose : f.h.whose 0 = 0
  left : f.h.left 0 = lf
  rn : f.r.n = 4
  tail : f.r.tail = tl
  head : f.r.head = hd
  num0 : f.r.number 0 = n0
  num1 : f.r.number 1 = 1
  val0 : n0 = 1 → f.r.value 0 = 0
  own : f.lk.owner = own
  nn : an = true → f.h.act 0 ≠ none
  pops : an = true → (f.av 0).pops = pops
  anx : an = true → (f.av 0).next = anx
  aat : an = true → (f.av 0).at_ = aat
  apl : an = true → (f.av 0).place = apl
  aval : an = true → (f.av 0).value = 0
  bst : (f.bs 0).state = st
  bop : st = 1 → (f.bs 0).opn = ⟨0, 0, 0, 9⟩
  bres : st = 2 → (f.bs 0).res.answer = 1
  op : dn = false → f.h.kind 0 = 0 ∧ f.h.tier 0 = 0 ∧ f.h.cohort 0 = 0 ∧ f.h.num 0 = 9
  ch : dn = false → (∃ q lg, f.ch = CoreHM.new cfDefault q lg) ∧ f.cn = 64 ∧ f.T = 0 ∧ (∀ t, f.rows t = [])
  ap : dn = false → f.ap = []
  ans : dn = true → f.h.answer 0 = 1

theorem wr0 : IntKind.wrap .u64 0 = 0 := rfl
theorem wr1 : IntKind.wrap .u64 1 = 1 := rfl
theorem wr2 : IntKind.wrap .u64 2 = 2 := rfl
theorem wr4 : IntKind.wrap .u64 4 = 4 := rfl
theorem wi0 : IntKind.wrap .i64 0 = 0 := rfl
theorem upd01 {α : Type} (g : Nat → α) (v : α) : upd g 0 v 1 = g 1 := upd_other (by omega)
theorem wim : IntKind.wrap .i64 (IntKind.wrap .u64 (-1)) = -1 := rfl

theorem aw1 (a : FAt w d f) {a1 b1 c1 : Int} (s : AwS f 1 0 0 0 0 0 0 false false a1 b1 c1 false) (hK : ∀ w' d' f', Stp w w' d d' → FAt w' d' f' → AwS f' 2 1 0 0 0 0 0 true false 4 0 0 false → K (.tuple #[Rs.zero.v, .bool false]) w') :
    CallsV P 21 #[.pointer (some ⟨d.fb, 0, none⟩), .int .i64 ((0 : Nat) : Int)] w K := by
  refine step_post a (by rw [s.n]; omega) s.next (by omega) s.bst fun w' d' b s' e1 e2 a' => hK w' d' _ s' a' ?_
  obtain ⟨hn, hclock, hnext, hwhose, hleft, hrn, htail, hhead, hnum0, hnum1, hval0, hown, hnn, hpops, hanx, haat, hapl, haval, hst, hbop, hbres, hop, hch, hap, hans⟩ := s
  simp only [forall_const] at hval0 hnn hpops hanx haat hapl haval hbop hbres hop hch hap hans
  constructor <;> simp_all [FrontC.sNext, FrontC.sKind, FrontC.sTier, FrontC.sCohort, FrontC.sNum, FrontC.sLeft, FrontC.sWhose, FrontC.sAct, FrontC.sBox, FrontC.sStep, FrontC.sLock, FrontC.sCore, FrontC.sRes, FrontC.sAp, FrontC.enter, ActM.join, ActM.push, ActM.pop, BoxM.post, BoxM.finish, BoxM.opn, BoxM.res, FrontC.res, upd_same, upd01, stepA, stepR, takeA, takeR, claimA, claimR, ActM.ask, askD, wr0, wr1, wr2, wr4, wi0, wim]

theorem AwS.aok {nx st tl hd n0 own lf : Int} {ps : Bool} {anx aat apl : Int} {dn : Bool} (s : AwS f nx st tl hd n0 own lf true ps anx aat apl dn) (h1 : 0 ≤ apl) (h2 : 0 ≤ aat) (h3 : 0 ≤ anx ∧ anx ≤ 4) : ActOk f 0 :=
  ⟨s.nn rfl, by rw [s.rn]; omega, by rw [s.apl rfl]; exact h1, by rw [s.aat rfl]; exact h2, by rw [s.anx rfl]; exact h3⟩

abbrev StepC (d : FIds) (w : World) (K : Value → World → Prop) : Prop := CallsV P 21 #[.pointer (some ⟨d.fb, 0, none⟩), .int .i64 ((0 : Nat) : Int)] w K
abbrev AwK (d : FIds) (w : World) (K : Value → World → Prop) (nx st tl hd n0 own lf : Int) (an : Bool) (pops : Bool) (anx aat apl : Int) (dn : Bool) : Prop :=
  ∀ w' d' f', Stp w w' d d' → FAt w' d' f' → AwS f' nx st tl hd n0 own lf an pops anx aat apl dn → K (.tuple #[Rs.zero.v, .bool false]) w'

theorem aw2 (a : FAt w d f) (s : AwS f 2 1 0 0 0 0 0 true false 4 0 0 false) (hK : AwK d w K 2 1 1 0 0 0 0 true false 3 0 0 false) : StepC d w K := by
  have e : (stepA f.r (f.av 0)).next = 3 := by
    obtain ⟨hn, hclock, hnext, hwhose, hleft, hrn, htail, hhead, hnum0, hnum1, hval0, hown, hnn, hpops, hanx, haat, hapl, haval, hst, hbop, hbres, hop, hch, hap, hans⟩ := s
    simp only [forall_const] at hval0 hnn hpops hanx haat hapl haval hbop hbres hop hch hap hans
    simp_all [stepA, stepR, takeA, takeR, claimA, claimR, ActM.ask, askD, wr0, wr1, wr2, wr4, wi0, wim]
  refine step_join a (by rw [s.n]; omega) s.next (s.aok (by omega) (by omega) (by omega)) (fun h => by rw [e] at h; exact absurd h (by omega)) fun w' s' a' => ?_
  rw [if_neg (by rw [e]; omega)] at a'
  refine hK w' d _ s' a' ?_
  obtain ⟨hn, hclock, hnext, hwhose, hleft, hrn, htail, hhead, hnum0, hnum1, hval0, hown, hnn, hpops, hanx, haat, hapl, haval, hst, hbop, hbres, hop, hch, hap, hans⟩ := s
  simp only [forall_const] at hval0 hnn hpops hanx haat hapl haval hbop hbres hop hch hap hans
  constructor <;> simp_all [FrontC.sNext, FrontC.sKind, FrontC.sTier, FrontC.sCohort, FrontC.sNum, FrontC.sLeft, FrontC.sWhose, FrontC.sAct, FrontC.sBox, FrontC.sStep, FrontC.sLock, FrontC.sCore, FrontC.sRes, FrontC.sAp, FrontC.enter, ActM.join, ActM.push, ActM.pop, BoxM.post, BoxM.finish, BoxM.opn, BoxM.res, FrontC.res, upd_same, upd01, stepA, stepR, takeA, takeR, claimA, claimR, ActM.ask, askD, wr0, wr1, wr2, wr4, wi0, wim]

theorem aw3 (a : FAt w d f) (s : AwS f 2 1 1 0 0 0 0 true false 3 0 0 false) (hK : AwK d w K 3 1 1 0 1 0 0 false false 0 0 0 false) : StepC d w K := by
  have e : (stepA f.r (f.av 0)).next = 5 := by
    obtain ⟨hn, hclock, hnext, hwhose, hleft, hrn, htail, hhead, hnum0, hnum1, hval0, hown, hnn, hpops, hanx, haat, hapl, haval, hst, hbop, hbres, hop, hch, hap, hans⟩ := s
    simp only [forall_const] at hval0 hnn hpops hanx haat hapl haval hbop hbres hop hch hap hans
    simp_all [stepA, stepR, takeA, takeR, claimA, claimR, ActM.ask, askD, wr0, wr1, wr2, wr4, wi0, wim]
  have e2 : (stepA f.r (f.av 0)).well = true := by
    obtain ⟨hn, hclock, hnext, hwhose, hleft, hrn, htail, hhead, hnum0, hnum1, hval0, hown, hnn, hpops, hanx, haat, hapl, haval, hst, hbop, hbres, hop, hch, hap, hans⟩ := s
    simp only [forall_const] at hval0 hnn hpops hanx haat hapl haval hbop hbres hop hch hap hans
    simp_all [stepA, stepR, takeA, takeR, claimA, claimR, ActM.ask, askD, wr0, wr1, wr2, wr4, wi0, wim]
  refine step_join a (by rw [s.n]; omega) s.next (s.aok (by omega) (by omega) (by omega)) (fun h => e2) fun w' s' a' => ?_
  rw [if_pos e] at a'
  refine hK w' d _ s' a' ?_
  obtain ⟨hn, hclock, hnext, hwhose, hleft, hrn, htail, hhead, hnum0, hnum1, hval0, hown, hnn, hpops, hanx, haat, hapl, haval, hst, hbop, hbres, hop, hch, hap, hans⟩ := s
  simp only [forall_const] at hval0 hnn hpops hanx haat hapl haval hbop hbres hop hch hap hans
  constructor <;> simp_all [FrontC.sNext, FrontC.sKind, FrontC.sTier, FrontC.sCohort, FrontC.sNum, FrontC.sLeft, FrontC.sWhose, FrontC.sAct, FrontC.sBox, FrontC.sStep, FrontC.sLock, FrontC.sCore, FrontC.sRes, FrontC.sAp, FrontC.enter, ActM.join, ActM.push, ActM.pop, BoxM.post, BoxM.finish, BoxM.opn, BoxM.res, FrontC.res, upd_same, upd01, stepA, stepR, takeA, takeR, claimA, claimR, ActM.ask, askD, wr0, wr1, wr2, wr4, wi0, wim]

theorem aw4 (a : FAt w d f) (s : AwS f 3 1 1 0 1 0 0 false false 0 0 0 false) (hK : AwK d w K 4 1 1 0 1 0 0 false false 0 0 0 false) : StepC d w K := by
  refine step_wait a (by rw [s.n]; omega) s.next (by rw [s.bst]; omega) (fun _ w' s' a' => ?_) (fun h => by rw [s.bst] at h; exact absurd h (by omega))
  refine hK w' d _ s' a' ?_
  obtain ⟨hn, hclock, hnext, hwhose, hleft, hrn, htail, hhead, hnum0, hnum1, hval0, hown, hnn, hpops, hanx, haat, hapl, haval, hst, hbop, hbres, hop, hch, hap, hans⟩ := s
  simp only [forall_const] at hval0 hnn hpops hanx haat hapl haval hbop hbres hop hch hap hans
  constructor <;> simp_all [FrontC.sNext, FrontC.sKind, FrontC.sTier, FrontC.sCohort, FrontC.sNum, FrontC.sLeft, FrontC.sWhose, FrontC.sAct, FrontC.sBox, FrontC.sStep, FrontC.sLock, FrontC.sCore, FrontC.sRes, FrontC.sAp, FrontC.enter, ActM.join, ActM.push, ActM.pop, BoxM.post, BoxM.finish, BoxM.opn, BoxM.res, FrontC.res, upd_same, upd01, stepA, stepR, takeA, takeR, claimA, claimR, ActM.ask, askD, wr0, wr1, wr2, wr4, wi0, wim]

theorem aw5 (a : FAt w d f) (s : AwS f 4 1 1 0 1 0 0 false false 0 0 0 false) (hK : AwK d w K 5 1 1 0 1 1 4 true true 0 0 0 false) : StepC d w K := by
  refine step_lock a (by rw [s.n]; omega) s.next (by omega) (fun _ w' d' b s' e a' => ?_) (fun h => absurd s.own h)
  refine hK w' d' _ s' a' ?_
  obtain ⟨hn, hclock, hnext, hwhose, hleft, hrn, htail, hhead, hnum0, hnum1, hval0, hown, hnn, hpops, hanx, haat, hapl, haval, hst, hbop, hbres, hop, hch, hap, hans⟩ := s
  simp only [forall_const] at hval0 hnn hpops hanx haat hapl haval hbop hbres hop hch hap hans
  constructor <;> simp_all [FrontC.sNext, FrontC.sKind, FrontC.sTier, FrontC.sCohort, FrontC.sNum, FrontC.sLeft, FrontC.sWhose, FrontC.sAct, FrontC.sBox, FrontC.sStep, FrontC.sLock, FrontC.sCore, FrontC.sRes, FrontC.sAp, FrontC.enter, ActM.join, ActM.push, ActM.pop, BoxM.post, BoxM.finish, BoxM.opn, BoxM.res, FrontC.res, upd_same, upd01, stepA, stepR, takeA, takeR, claimA, claimR, ActM.ask, askD, wr0, wr1, wr2, wr4, wi0, wim]

theorem aw6 (a : FAt w d f) (s : AwS f 5 1 1 0 1 1 4 true true 0 0 0 false) (hK : AwK d w K 5 1 1 0 1 1 4 true true 1 0 0 false) : StepC d w K := by
  have e : (stepA f.r (f.av 0)).next = 1 := by
    obtain ⟨hn, hclock, hnext, hwhose, hleft, hrn, htail, hhead, hnum0, hnum1, hval0, hown, hnn, hpops, hanx, haat, hapl, haval, hst, hbop, hbres, hop, hch, hap, hans⟩ := s
    simp only [forall_const] at hval0 hnn hpops hanx haat hapl haval hbop hbres hop hch hap hans
    simp_all [stepA, stepR, takeA, takeR, claimA, claimR, ActM.ask, askD, wr0, wr1, wr2, wr4, wi0, wim]
  have e2 : (stepA f.r (f.av 0)).pops = true := by
    obtain ⟨hn, hclock, hnext, hwhose, hleft, hrn, htail, hhead, hnum0, hnum1, hval0, hown, hnn, hpops, hanx, haat, hapl, haval, hst, hbop, hbres, hop, hch, hap, hans⟩ := s
    simp only [forall_const] at hval0 hnn hpops hanx haat hapl haval hbop hbres hop hch hap hans
    simp_all [stepA, stepR, takeA, takeR, claimA, claimR, ActM.ask, askD, wr0, wr1, wr2, wr4, wi0, wim]
  refine step_take a (by rw [s.n]; omega) s.next (s.aok (by omega) (by omega) (by omega)) e2 fun w' s' a' => ?_
  rw [if_neg (by rw [e]; omega)] at a'
  refine hK w' d _ s' a' ?_
  obtain ⟨hn, hclock, hnext, hwhose, hleft, hrn, htail, hhead, hnum0, hnum1, hval0, hown, hnn, hpops, hanx, haat, hapl, haval, hst, hbop, hbres, hop, hch, hap, hans⟩ := s
  simp only [forall_const] at hval0 hnn hpops hanx haat hapl haval hbop hbres hop hch hap hans
  constructor <;> simp_all [FrontC.sNext, FrontC.sKind, FrontC.sTier, FrontC.sCohort, FrontC.sNum, FrontC.sLeft, FrontC.sWhose, FrontC.sAct, FrontC.sBox, FrontC.sStep, FrontC.sLock, FrontC.sCore, FrontC.sRes, FrontC.sAp, FrontC.enter, ActM.join, ActM.push, ActM.pop, BoxM.post, BoxM.finish, BoxM.opn, BoxM.res, FrontC.res, upd_same, upd01, stepA, stepR, takeA, takeR, claimA, claimR, ActM.ask, askD, wr0, wr1, wr2, wr4, wi0, wim]

theorem aw7 (a : FAt w d f) (s : AwS f 5 1 1 0 1 1 4 true true 1 0 0 false) (hK : AwK d w K 5 1 1 0 1 1 4 true true 2 0 0 false) : StepC d w K := by
  have e : (stepA f.r (f.av 0)).next = 2 := by
    obtain ⟨hn, hclock, hnext, hwhose, hleft, hrn, htail, hhead, hnum0, hnum1, hval0, hown, hnn, hpops, hanx, haat, hapl, haval, hst, hbop, hbres, hop, hch, hap, hans⟩ := s
    simp only [forall_const] at hval0 hnn hpops hanx haat hapl haval hbop hbres hop hch hap hans
    simp_all [stepA, stepR, takeA, takeR, claimA, claimR, ActM.ask, askD, wr0, wr1, wr2, wr4, wi0, wim]
  have e2 : (stepA f.r (f.av 0)).pops = true := by
    obtain ⟨hn, hclock, hnext, hwhose, hleft, hrn, htail, hhead, hnum0, hnum1, hval0, hown, hnn, hpops, hanx, haat, hapl, haval, hst, hbop, hbres, hop, hch, hap, hans⟩ := s
    simp only [forall_const] at hval0 hnn hpops hanx haat hapl haval hbop hbres hop hch hap hans
    simp_all [stepA, stepR, takeA, takeR, claimA, claimR, ActM.ask, askD, wr0, wr1, wr2, wr4, wi0, wim]
  refine step_take a (by rw [s.n]; omega) s.next (s.aok (by omega) (by omega) (by omega)) e2 fun w' s' a' => ?_
  rw [if_neg (by rw [e]; omega)] at a'
  refine hK w' d _ s' a' ?_
  obtain ⟨hn, hclock, hnext, hwhose, hleft, hrn, htail, hhead, hnum0, hnum1, hval0, hown, hnn, hpops, hanx, haat, hapl, haval, hst, hbop, hbres, hop, hch, hap, hans⟩ := s
  simp only [forall_const] at hval0 hnn hpops hanx haat hapl haval hbop hbres hop hch hap hans
  constructor <;> simp_all [FrontC.sNext, FrontC.sKind, FrontC.sTier, FrontC.sCohort, FrontC.sNum, FrontC.sLeft, FrontC.sWhose, FrontC.sAct, FrontC.sBox, FrontC.sStep, FrontC.sLock, FrontC.sCore, FrontC.sRes, FrontC.sAp, FrontC.enter, ActM.join, ActM.push, ActM.pop, BoxM.post, BoxM.finish, BoxM.opn, BoxM.res, FrontC.res, upd_same, upd01, stepA, stepR, takeA, takeR, claimA, claimR, ActM.ask, askD, wr0, wr1, wr2, wr4, wi0, wim]

theorem aw8 (a : FAt w d f) (s : AwS f 5 1 1 0 1 1 4 true true 2 0 0 false) (hK : AwK d w K 5 1 1 1 1 1 4 true true 3 0 0 false) : StepC d w K := by
  have e : (stepA f.r (f.av 0)).next = 3 := by
    obtain ⟨hn, hclock, hnext, hwhose, hleft, hrn, htail, hhead, hnum0, hnum1, hval0, hown, hnn, hpops, hanx, haat, hapl, haval, hst, hbop, hbres, hop, hch, hap, hans⟩ := s
    simp only [forall_const] at hval0 hnn hpops hanx haat hapl haval hbop hbres hop hch hap hans
    simp_all [stepA, stepR, takeA, takeR, claimA, claimR, ActM.ask, askD, wr0, wr1, wr2, wr4, wi0, wim]
  have e2 : (stepA f.r (f.av 0)).pops = true := by
    obtain ⟨hn, hclock, hnext, hwhose, hleft, hrn, htail, hhead, hnum0, hnum1, hval0, hown, hnn, hpops, hanx, haat, hapl, haval, hst, hbop, hbres, hop, hch, hap, hans⟩ := s
    simp only [forall_const] at hval0 hnn hpops hanx haat hapl haval hbop hbres hop hch hap hans
    simp_all [stepA, stepR, takeA, takeR, claimA, claimR, ActM.ask, askD, wr0, wr1, wr2, wr4, wi0, wim]
  refine step_take a (by rw [s.n]; omega) s.next (s.aok (by omega) (by omega) (by omega)) e2 fun w' s' a' => ?_
  rw [if_neg (by rw [e]; omega)] at a'
  refine hK w' d _ s' a' ?_
  obtain ⟨hn, hclock, hnext, hwhose, hleft, hrn, htail, hhead, hnum0, hnum1, hval0, hown, hnn, hpops, hanx, haat, hapl, haval, hst, hbop, hbres, hop, hch, hap, hans⟩ := s
  simp only [forall_const] at hval0 hnn hpops hanx haat hapl haval hbop hbres hop hch hap hans
  constructor <;> simp_all [FrontC.sNext, FrontC.sKind, FrontC.sTier, FrontC.sCohort, FrontC.sNum, FrontC.sLeft, FrontC.sWhose, FrontC.sAct, FrontC.sBox, FrontC.sStep, FrontC.sLock, FrontC.sCore, FrontC.sRes, FrontC.sAp, FrontC.enter, ActM.join, ActM.push, ActM.pop, BoxM.post, BoxM.finish, BoxM.opn, BoxM.res, FrontC.res, upd_same, upd01, stepA, stepR, takeA, takeR, claimA, claimR, ActM.ask, askD, wr0, wr1, wr2, wr4, wi0, wim]

theorem aw9 (a : FAt w d f) (s : AwS f 5 1 1 1 1 1 4 true true 3 0 0 false) (hK : AwK d w K 6 1 1 1 4 1 4 false true 0 0 0 false) : StepC d w K := by
  have e : (stepA f.r (f.av 0)).next = 5 := by
    obtain ⟨hn, hclock, hnext, hwhose, hleft, hrn, htail, hhead, hnum0, hnum1, hval0, hown, hnn, hpops, hanx, haat, hapl, haval, hst, hbop, hbres, hop, hch, hap, hans⟩ := s
    simp only [forall_const] at hval0 hnn hpops hanx haat hapl haval hbop hbres hop hch hap hans
    simp_all [stepA, stepR, takeA, takeR, claimA, claimR, ActM.ask, askD, wr0, wr1, wr2, wr4, wi0, wim]
  have e2 : (stepA f.r (f.av 0)).pops = true := by
    obtain ⟨hn, hclock, hnext, hwhose, hleft, hrn, htail, hhead, hnum0, hnum1, hval0, hown, hnn, hpops, hanx, haat, hapl, haval, hst, hbop, hbres, hop, hch, hap, hans⟩ := s
    simp only [forall_const] at hval0 hnn hpops hanx haat hapl haval hbop hbres hop hch hap hans
    simp_all [stepA, stepR, takeA, takeR, claimA, claimR, ActM.ask, askD, wr0, wr1, wr2, wr4, wi0, wim]
  have e3 : (stepA f.r (f.av 0)).well = true := by
    obtain ⟨hn, hclock, hnext, hwhose, hleft, hrn, htail, hhead, hnum0, hnum1, hval0, hown, hnn, hpops, hanx, haat, hapl, haval, hst, hbop, hbres, hop, hch, hap, hans⟩ := s
    simp only [forall_const] at hval0 hnn hpops hanx haat hapl haval hbop hbres hop hch hap hans
    simp_all [stepA, stepR, takeA, takeR, claimA, claimR, ActM.ask, askD, wr0, wr1, wr2, wr4, wi0, wim]
  have e4 : (stepA f.r (f.av 0)).value = 0 := by
    obtain ⟨hn, hclock, hnext, hwhose, hleft, hrn, htail, hhead, hnum0, hnum1, hval0, hown, hnn, hpops, hanx, haat, hapl, haval, hst, hbop, hbres, hop, hch, hap, hans⟩ := s
    simp only [forall_const] at hval0 hnn hpops hanx haat hapl haval hbop hbres hop hch hap hans
    simp_all [stepA, stepR, takeA, takeR, claimA, claimR, ActM.ask, askD, wr0, wr1, wr2, wr4, wi0, wim]
  refine step_take a (by rw [s.n]; omega) s.next (s.aok (by omega) (by omega) (by omega)) e2 fun w' s' a' => ?_
  rw [if_pos e, if_pos e3, e4] at a'
  refine hK w' d _ s' a' ?_
  obtain ⟨hn, hclock, hnext, hwhose, hleft, hrn, htail, hhead, hnum0, hnum1, hval0, hown, hnn, hpops, hanx, haat, hapl, haval, hst, hbop, hbres, hop, hch, hap, hans⟩ := s
  simp only [forall_const] at hval0 hnn hpops hanx haat hapl haval hbop hbres hop hch hap hans
  constructor <;> simp_all [FrontC.sNext, FrontC.sKind, FrontC.sTier, FrontC.sCohort, FrontC.sNum, FrontC.sLeft, FrontC.sWhose, FrontC.sAct, FrontC.sBox, FrontC.sStep, FrontC.sLock, FrontC.sCore, FrontC.sRes, FrontC.sAp, FrontC.enter, ActM.join, ActM.push, ActM.pop, BoxM.post, BoxM.finish, BoxM.opn, BoxM.res, FrontC.res, upd_same, upd01, stepA, stepR, takeA, takeR, claimA, claimR, ActM.ask, askD, wr0, wr1, wr2, wr4, wi0, wim]

theorem aw10 (a : FAt w d f) (s : AwS f 6 1 1 1 4 1 4 false true 0 0 0 false) (hK : AwK d w K 7 1 1 1 4 1 4 false true 0 0 0 true) : StepC d w K := by
  obtain ⟨⟨q, lg, hch⟩, hcn, hT, hrows⟩ := s.ch rfl
  have hr : f.rows = fun _ => [] := funext hrows
  refine step_apply (j := 0) (Q := fun r _ _ _ _ => r.answer = 1) a (by rw [s.n]; omega) s.next s.whose (by rw [s.n]; omega) s.bst (by rw [s.ap rfl]; simp) (fun w1 K1 ca hk1 => ?_) (fun w' d' r ch' T' rows' log' hQ s' a' => ?_)
  · rw [s.clock, s.bop rfl]
    rw [hch, hcn, hT, hr] at ca
    refine doPut_ok (op := ⟨0, 0, 0, 9⟩) (t := 0) (clk := 0) ca default_valid rfl rfl (by unfold i64; decide) (show i64 0 by unfold i64; decide) rfl rfl (show 0 ≤ (0 : Int) ∧ (0 : Int) + 1 ≤ 1000000000 by decide) (by decide) (show judgeM cfDefault 0 0 0 0 9 = 0 from rfl) (show judgeM cfDefault 0 0 0 0 9 = 0 from rfl) (fun t ht x r h => by cases h) (show 0 < 4 by decide) rfl rfl (show (allR (fun _ => []) 4).length < 64 by decide) fun w' q' x o e1 e2 ca' => ?_
    refine hk1 w' { d.c with q := q' } _ _ _ _ _ rfl o rfl (fun b hb => ?_) (by rw [hcn]; exact ca')
    simp only [CIds.list, List.mem_cons, List.mem_append] at hb ⊢
    rcases hb with h | h | h | h | h
    · exact .inl (.inl h)
    · exact .inl (.inr (.inl h))
    · exact .inl (.inr (.inr (.inl h)))
    · exact .inl (.inr (.inr (.inr (.inl h))))
    · rcases e2 b h with h | h
      · exact .inl (.inr (.inr (.inr (.inr h))))
      · exact .inr h
  · refine hK w' d' _ s' a' ?_
    obtain ⟨hn, hclock, hnext, hwhose, hleft, hrn, htail, hhead, hnum0, hnum1, hval0, hown, hnn, hpops, hanx, haat, hapl, haval, hst, hbop, hbres, hop, hch, hap, hans⟩ := s
    simp only [forall_const] at hval0 hnn hpops hanx haat hapl haval hbop hbres hop hch hap hans
    constructor <;> simp_all [FrontC.sNext, FrontC.sKind, FrontC.sTier, FrontC.sCohort, FrontC.sNum, FrontC.sLeft, FrontC.sWhose, FrontC.sAct, FrontC.sBox, FrontC.sStep, FrontC.sLock, FrontC.sCore, FrontC.sRes, FrontC.sAp, FrontC.enter, ActM.join, ActM.push, ActM.pop, BoxM.post, BoxM.finish, BoxM.opn, BoxM.res, FrontC.res, upd_same, upd01, stepA, stepR, takeA, takeR, claimA, claimR, ActM.ask, askD, wr0, wr1, wr2, wr4, wi0, wim]

theorem aw11 (a : FAt w d f) (s : AwS f 7 1 1 1 4 1 4 false true 0 0 0 true) (hK : AwK d w K 5 2 1 1 4 1 3 true true 0 0 0 true) : StepC d w K := by
  refine step_tell (j := 0) (l := 3) a (by rw [s.n]; omega) s.next s.whose (by rw [s.n]; omega) s.bst (by rw [s.left]; rfl) (fun _ w' d' b s' e a' => ?_) (fun h => absurd (show (0 : Int) < 3 by omega) h)
  refine hK w' d' _ s' a' ?_
  obtain ⟨hn, hclock, hnext, hwhose, hleft, hrn, htail, hhead, hnum0, hnum1, hval0, hown, hnn, hpops, hanx, haat, hapl, haval, hst, hbop, hbres, hop, hch, hap, hans⟩ := s
  simp only [forall_const] at hval0 hnn hpops hanx haat hapl haval hbop hbres hop hch hap hans
  constructor <;> simp_all [FrontC.sNext, FrontC.sKind, FrontC.sTier, FrontC.sCohort, FrontC.sNum, FrontC.sLeft, FrontC.sWhose, FrontC.sAct, FrontC.sBox, FrontC.sStep, FrontC.sLock, FrontC.sCore, FrontC.sRes, FrontC.sAp, FrontC.enter, ActM.join, ActM.push, ActM.pop, BoxM.post, BoxM.finish, BoxM.opn, BoxM.res, FrontC.res, upd_same, upd01, stepA, stepR, takeA, takeR, claimA, claimR, ActM.ask, askD, wr0, wr1, wr2, wr4, wi0, wim]

theorem aw12 (a : FAt w d f) (s : AwS f 5 2 1 1 4 1 3 true true 0 0 0 true) (hK : AwK d w K 5 2 1 1 4 1 3 true true 1 1 0 true) : StepC d w K := by
  have e : (stepA f.r (f.av 0)).next = 1 := by
    obtain ⟨hn, hclock, hnext, hwhose, hleft, hrn, htail, hhead, hnum0, hnum1, hval0, hown, hnn, hpops, hanx, haat, hapl, haval, hst, hbop, hbres, hop, hch, hap, hans⟩ := s
    simp only [forall_const] at hval0 hnn hpops hanx haat hapl haval hbop hbres hop hch hap hans
    simp_all [stepA, stepR, takeA, takeR, claimA, claimR, ActM.ask, askD, wr0, wr1, wr2, wr4, wi0, wim]
  have e2 : (stepA f.r (f.av 0)).pops = true := by
    obtain ⟨hn, hclock, hnext, hwhose, hleft, hrn, htail, hhead, hnum0, hnum1, hval0, hown, hnn, hpops, hanx, haat, hapl, haval, hst, hbop, hbres, hop, hch, hap, hans⟩ := s
    simp only [forall_const] at hval0 hnn hpops hanx haat hapl haval hbop hbres hop hch hap hans
    simp_all [stepA, stepR, takeA, takeR, claimA, claimR, ActM.ask, askD, wr0, wr1, wr2, wr4, wi0, wim]
  refine step_take a (by rw [s.n]; omega) s.next (s.aok (by omega) (by omega) (by omega)) e2 fun w' s' a' => ?_
  rw [if_neg (by rw [e]; omega)] at a'
  refine hK w' d _ s' a' ?_
  obtain ⟨hn, hclock, hnext, hwhose, hleft, hrn, htail, hhead, hnum0, hnum1, hval0, hown, hnn, hpops, hanx, haat, hapl, haval, hst, hbop, hbres, hop, hch, hap, hans⟩ := s
  simp only [forall_const] at hval0 hnn hpops hanx haat hapl haval hbop hbres hop hch hap hans
  constructor <;> simp_all [FrontC.sNext, FrontC.sKind, FrontC.sTier, FrontC.sCohort, FrontC.sNum, FrontC.sLeft, FrontC.sWhose, FrontC.sAct, FrontC.sBox, FrontC.sStep, FrontC.sLock, FrontC.sCore, FrontC.sRes, FrontC.sAp, FrontC.enter, ActM.join, ActM.push, ActM.pop, BoxM.post, BoxM.finish, BoxM.opn, BoxM.res, FrontC.res, upd_same, upd01, stepA, stepR, takeA, takeR, claimA, claimR, ActM.ask, askD, wr0, wr1, wr2, wr4, wi0, wim]

theorem aw13 (a : FAt w d f) (s : AwS f 5 2 1 1 4 1 3 true true 1 1 0 true) (hK : AwK d w K 8 2 1 1 4 1 3 false true 0 0 0 true) : StepC d w K := by
  have e : (stepA f.r (f.av 0)).next = 5 := by
    obtain ⟨hn, hclock, hnext, hwhose, hleft, hrn, htail, hhead, hnum0, hnum1, hval0, hown, hnn, hpops, hanx, haat, hapl, haval, hst, hbop, hbres, hop, hch, hap, hans⟩ := s
    simp only [forall_const] at hval0 hnn hpops hanx haat hapl haval hbop hbres hop hch hap hans
    simp_all [stepA, stepR, takeA, takeR, claimA, claimR, ActM.ask, askD, wr0, wr1, wr2, wr4, wi0, wim]
  have e2 : (stepA f.r (f.av 0)).pops = true := by
    obtain ⟨hn, hclock, hnext, hwhose, hleft, hrn, htail, hhead, hnum0, hnum1, hval0, hown, hnn, hpops, hanx, haat, hapl, haval, hst, hbop, hbres, hop, hch, hap, hans⟩ := s
    simp only [forall_const] at hval0 hnn hpops hanx haat hapl haval hbop hbres hop hch hap hans
    simp_all [stepA, stepR, takeA, takeR, claimA, claimR, ActM.ask, askD, wr0, wr1, wr2, wr4, wi0, wim]
  have e3 : ¬ (stepA f.r (f.av 0)).well = true := by
    obtain ⟨hn, hclock, hnext, hwhose, hleft, hrn, htail, hhead, hnum0, hnum1, hval0, hown, hnn, hpops, hanx, haat, hapl, haval, hst, hbop, hbres, hop, hch, hap, hans⟩ := s
    simp only [forall_const] at hval0 hnn hpops hanx haat hapl haval hbop hbres hop hch hap hans
    simp_all [stepA, stepR, takeA, takeR, claimA, claimR, ActM.ask, askD, wr0, wr1, wr2, wr4, wi0, wim]
  refine step_take a (by rw [s.n]; omega) s.next (s.aok (by omega) (by omega) (by omega)) e2 fun w' s' a' => ?_
  rw [if_pos e, if_neg e3] at a'
  refine hK w' d _ s' a' ?_
  obtain ⟨hn, hclock, hnext, hwhose, hleft, hrn, htail, hhead, hnum0, hnum1, hval0, hown, hnn, hpops, hanx, haat, hapl, haval, hst, hbop, hbres, hop, hch, hap, hans⟩ := s
  simp only [forall_const] at hval0 hnn hpops hanx haat hapl haval hbop hbres hop hch hap hans
  constructor <;> simp_all [FrontC.sNext, FrontC.sKind, FrontC.sTier, FrontC.sCohort, FrontC.sNum, FrontC.sLeft, FrontC.sWhose, FrontC.sAct, FrontC.sBox, FrontC.sStep, FrontC.sLock, FrontC.sCore, FrontC.sRes, FrontC.sAp, FrontC.enter, ActM.join, ActM.push, ActM.pop, BoxM.post, BoxM.finish, BoxM.opn, BoxM.res, FrontC.res, upd_same, upd01, stepA, stepR, takeA, takeR, claimA, claimR, ActM.ask, askD, wr0, wr1, wr2, wr4, wi0, wim]

theorem aw14 (a : FAt w d f) (s : AwS f 8 2 1 1 4 1 3 false true 0 0 0 true) (hK : AwK d w K 3 2 1 1 4 0 3 false true 0 0 0 true) : StepC d w K := by
  refine step_free a (by rw [s.n]; omega) s.next (by omega) fun w' s' a' => ?_
  rw [if_pos (by rw [s.own]; rfl)] at a'
  refine hK w' d _ s' a' ?_
  obtain ⟨hn, hclock, hnext, hwhose, hleft, hrn, htail, hhead, hnum0, hnum1, hval0, hown, hnn, hpops, hanx, haat, hapl, haval, hst, hbop, hbres, hop, hch, hap, hans⟩ := s
  simp only [forall_const] at hval0 hnn hpops hanx haat hapl haval hbop hbres hop hch hap hans
  constructor <;> simp_all [FrontC.sNext, FrontC.sKind, FrontC.sTier, FrontC.sCohort, FrontC.sNum, FrontC.sLeft, FrontC.sWhose, FrontC.sAct, FrontC.sBox, FrontC.sStep, FrontC.sLock, FrontC.sCore, FrontC.sRes, FrontC.sAp, FrontC.enter, ActM.join, ActM.push, ActM.pop, BoxM.post, BoxM.finish, BoxM.opn, BoxM.res, FrontC.res, upd_same, upd01, stepA, stepR, takeA, takeR, claimA, claimR, ActM.ask, askD, wr0, wr1, wr2, wr4, wi0, wim]

theorem aw15 (a : FAt w d f) (s : AwS f 3 2 1 1 4 0 3 false true 0 0 0 true) (hK : ∀ w' d' f' r, Stp w w' d d' → FAt w' d' f' → f'.h.n = 4 → f'.h.next 0 = 0 → r.answer = 1 → K (.tuple #[Rs.v r, .bool true]) w') : StepC d w K := by
  refine step_wait a (by rw [s.n]; omega) s.next (by rw [s.bst]; omega) (fun h => absurd s.bst h) (fun _ w' s' a' => ?_)
  refine hK w' d _ _ s' a' ?_ ?_ (s.bres rfl)
  · exact s.n
  · simp [FrontC.sNext]

end Go.M

namespace Go.M
open Go Go.Eng Go.RowKit
set_option linter.all false
set_option linter.constructorNameAsVariable false
set_option maxRecDepth 100000
attribute [local irreducible] evCode owes Owed

/-- (*overfall/front.Front).Core -/
def m_front_Front_Core (f1 : Option Addr) (w0 : World) (K : Value → World → Prop) : Prop :=
  (if (Option.isNone f1) = true then K (.pointer none) w0 else Nn f1 fun f2 => ∃ (p3 : Option Addr), World.cell? w0 (f2.add 0) = some (.pointer p3) ∧ K (.pointer p3) w0)

theorem func_30 : P.funcs[30]? = some (fnOf 30) := by kernel_rfl
theorem body_30 : (fnOf 30).body = some (bodyOf 30) := by kernel_rfl
theorem m_front_Front_Core_owed : Owed P O0 (bodyOf 30) 1 := owed_of (cast (by kernel_rfl) True.intro)
theorem m_front_Front_Core_eq (f1 : Option Addr) (w0 : World) (K : Value → World → Prop) : m_front_Front_Core f1 w0 K = evCode T0 P O0 (bodyOf 30) 1 (env0 (Array.toList #[(.pointer f1)]) (fnOf 30).ntmps) w0 (endK T0 (fnOf 30).results.toList K) := by kernel_rfl
theorem m_front_Front_Core_ok {f1 : Option Addr} {w0 : World} {K : Value → World → Prop} (h : m_front_Front_Core f1 w0 K) : CallsV P 30 #[(.pointer f1)] w0 K :=
  func_sound W2 func_30 body_30 m_front_Front_Core_owed (Eq.mp (m_front_Front_Core_eq f1 w0 K) h)


def m_overfalllaw20_awake_l122 (vs : List Value) (w0 : World) (next : List Value → World → Prop) (out : Nat × List Value → World → Prop) : Prop :=
  match vs with
  | [.pointer f29, .slice sA30 sL31 sC32, .int .i64 n33, .int .i64 n34] => (if (decide (n34 < n33)) = true then Ix sA30 sL31 n34 fun a35 => ∃ (n36 : Int), World.cell? w0 (a35.add (Int.toNat n34 * 1)) = some (.int .i64 n36) ∧ CallsV P 18 #[(.pointer f29), (.int .i64 0)] w0 fun v37 w38 => ∃ (n39 : Int), v37 = (.int .i64 n39) ∧ (if (!decide (n39 = n36)) = true then out (1, [(.bool false)]) w38 else CallsV P 21 #[(.pointer f29), (.int .i64 0)] w38 fun v40 w41 => ∃ (n42 : Int) (n43 : Int) (n44 : Int) (n45 : Int) (n46 : Int) (b47 : Bool), v40 = (.tuple #[(.agg #[(.int .u8 n42), (.int .u64 n43), (.int .i64 n44), (.int .i64 n45), (.int .i64 n46)]), (.bool b47)]) ∧ Al #[(.int .u8 0), (.int .u64 0), (.int .i64 0), (.int .i64 0), (.int .i64 0)] 42 w41 fun b48 w49 => St ((⟨b48, 0, none⟩ : Addr).add 0) (.int .u8 n42) w49 fun w50 => St ((⟨b48, 0, none⟩ : Addr).add 1) (.int .u64 n43) w50 fun w51 => St ((⟨b48, 0, none⟩ : Addr).add 2) (.int .i64 n44) w51 fun w52 => St ((⟨b48, 0, none⟩ : Addr).add 3) (.int .i64 n45) w52 fun w53 => St ((⟨b48, 0, none⟩ : Addr).add 4) (.int .i64 n46) w53 fun w54 => (if b47 = true then out (1, [(.bool false)]) w54 else next [(.pointer f29), (.slice sA30 sL31 sC32), (.int .i64 n33), (.int .i64 (IntKind.wrap .i64 (n34 + 1)))] w54)) else out (0, [(.pointer f29)]) w0)
  | _ => False

def m_overfalllaw20_awake_l122_o (y : Nat × List Value) (k0 : Option Addr → Prop) (k1 : Bool → Prop) : Prop :=
  match y with
  | (0, [.pointer f55]) => k0 f55
  | (1, [.bool b56]) => k1 b56
  | _ => False

def m_overfalllaw20_awake_c7 (vs : List Value) (w0 : World) (out : Nat × List Value → World → Prop) : Prop :=
  match vs with
  | [.pointer f26] => Al #[(.int .i64 1), (.int .i64 2), (.int .i64 2), (.int .i64 3), (.int .i64 4), (.int .i64 5), (.int .i64 5), (.int .i64 5), (.int .i64 5), (.int .i64 6), (.int .i64 7), (.int .i64 5), (.int .i64 5), (.int .i64 8)] 3 w0 fun b27 w28 => LoopP m_overfalllaw20_awake_l122 [(.pointer f26), (.slice (some (⟨b27, 0, none⟩ : Addr)) 14 14), (.int .i64 (14 : Int)), (.int .i64 0)] w28 fun y58 w57 => m_overfalllaw20_awake_l122_o y58 (fun f59 => CallsV P 21 #[(.pointer f59), (.int .i64 0)] w57 fun v60 w61 => ∃ (n62 : Int) (n63 : Int) (n64 : Int) (n65 : Int) (n66 : Int) (b67 : Bool), v60 = (.tuple #[(.agg #[(.int .u8 n62), (.int .u64 n63), (.int .i64 n64), (.int .i64 n65), (.int .i64 n66)]), (.bool b67)]) ∧ Al #[(.int .u8 0), (.int .u64 0), (.int .i64 0), (.int .i64 0), (.int .i64 0)] 42 w61 fun b68 w69 => St ((⟨b68, 0, none⟩ : Addr).add 0) (.int .u8 n62) w69 fun w70 => St ((⟨b68, 0, none⟩ : Addr).add 1) (.int .u64 n63) w70 fun w71 => St ((⟨b68, 0, none⟩ : Addr).add 2) (.int .i64 n64) w71 fun w72 => St ((⟨b68, 0, none⟩ : Addr).add 3) (.int .i64 n65) w72 fun w73 => St ((⟨b68, 0, none⟩ : Addr).add 4) (.int .i64 n66) w73 fun w74 => (if b67 = true then ∃ (n75 : Int), World.cell? w74 ((⟨b68, 0, none⟩ : Addr).add 0) = some (.int .u8 n75) ∧ (if (decide (n75 = 1)) = true then CallsV P 18 #[(.pointer f59), (.int .i64 0)] w74 fun v76 w77 => ∃ (n78 : Int), v76 = (.int .i64 n78) ∧ out (0, [(.bool (decide (n78 = 0)))]) w77 else out (0, [(.bool false)]) w74) else out (0, [(.bool false)]) w74)) (fun b79 => out (0, [(.bool b79)]) w57)
  | _ => False

def m_overfalllaw20_awake_c7_o (y : Nat × List Value) (k0 : Bool → Prop) : Prop :=
  match y with
  | (0, [.bool b80]) => k0 b80
  | _ => False

/-- overfall/overfalllaw20.awake -/
def m_overfalllaw20_awake (w0 : World) (K : Value → World → Prop) : Prop :=
  CallsV P 35 #[] w0 fun v1 w2 => ∃ (n3 : Int) (n4 : Int) (n5 : Int) (n6 : Int) (n7 : Int) (n8 : Int) (n9 : Int) (n10 : Int) (n11 : Int) (n12 : Int) (n13 : Int) (n14 : Int) (n15 : Int) (n16 : Int) (n17 : Int) (n18 : Int), v1 = (.agg #[(.int .i64 n3), (.int .i64 n4), (.int .i64 n5), (.int .i64 n6), (.int .i64 n7), (.int .i64 n8), (.int .i64 n9), (.int .i64 n10), (.int .i64 n11), (.int .i64 n12), (.int .i64 n13), (.int .i64 n14), (.int .i64 n15), (.int .i64 n16), (.int .i64 n17), (.int .i64 n18)]) ∧ CallsV P 16 #[(.agg #[(.int .i64 n3), (.int .i64 n4), (.int .i64 n5), (.int .i64 n6), (.int .i64 n7), (.int .i64 n8), (.int .i64 n9), (.int .i64 n10), (.int .i64 n11), (.int .i64 n12), (.int .i64 n13), (.int .i64 n14), (.int .i64 n15), (.int .i64 n16), (.int .i64 n17), (.int .i64 n18)])] w2 fun v19 w20 => ∃ (p21 : Option Addr) (n22 : Int), v19 = (.tuple #[(.pointer p21), (.int .i64 n22)]) ∧ (if (!decide (n22 = 0)) = true then K (.bool false) w20 else (if (Option.isNone p21) = true then K (.bool false) w20 else CallsV P 19 #[(.pointer p21), (.int .i64 0), (.agg #[(.int .u8 0), (.int .i64 0), (.int .i64 0), (.int .i64 9)])] w20 fun v23 w24 => ∃ (n25 : Int), v23 = (.int .i64 n25) ∧ (if (!decide (n25 = 0)) = true then K (.bool false) w24 else m_overfalllaw20_awake_c7 [(.pointer p21)] w24 fun y82 w81 => m_overfalllaw20_awake_c7_o y82 (fun b83 => K (.bool b83) w81))))

theorem func_15 : P.funcs[15]? = some (fnOf 15) := by kernel_rfl
theorem body_15 : (fnOf 15).body = some (bodyOf 15) := by kernel_rfl
def m_overfalllaw20_awake_c7_p (y : Nat × List Value) (k : Nat × List Value → Prop) : Prop := m_overfalllaw20_awake_c7_o y (fun b80 => k (0, [(.bool b80)]))
theorem m_overfalllaw20_awake_c7_pok : ∀ y k, m_overfalllaw20_awake_c7_p y k → k y := by
  intro y k h
  unfold m_overfalllaw20_awake_c7_p m_overfalllaw20_awake_c7_o at h
  split at h <;> first | exact h | exact h.elim
def m_overfalllaw20_awake_l122_p (y : Nat × List Value) (k : Nat × List Value → Prop) : Prop := m_overfalllaw20_awake_l122_o y (fun f55 => k (0, [(.pointer f55)])) (fun b56 => k (1, [(.bool b56)]))
theorem m_overfalllaw20_awake_l122_pok : ∀ y k, m_overfalllaw20_awake_l122_p y k → k y := by
  intro y k h
  unfold m_overfalllaw20_awake_l122_p m_overfalllaw20_awake_l122_o at h
  split at h <;> first | exact h | exact h.elim
def m_overfalllaw20_awake_c7_E : Env → World → Kont → Prop := (fun e w k => takeK 59 [1] e fun vs => m_overfalllaw20_awake_c7 vs w fun y w => m_overfalllaw20_awake_c7_p y fun y => outK 59 [(.ret, [0])] k y w)
def m_overfalllaw20_awake_l122_E : Env → World → Kont → Prop := (fun e w k => takeK 59 [1, 26, 27, 28] e fun vs => LoopP m_overfalllaw20_awake_l122 vs w fun y w => m_overfalllaw20_awake_l122_p y fun y => outK 59 [(.exit 0, [1]), (.ret, [0])] k y w)
def O_m_overfalllaw20_awake : Orac := { loop := fun p => cond (Nat.beq p 122) m_overfalllaw20_awake_l122_E ((fun _ _ _ => False)), cut := fun p => cond (Nat.beq p 7) (some m_overfalllaw20_awake_c7_E) (none) }
theorem m_overfalllaw20_awake_l122_owed : Owed P O_m_overfalllaw20_awake (loopBody (codeAt (bodyOf 15) [true, true, true, false, true, false])) 244 := owed_of (cast (by kernel_rfl) True.intro)
theorem m_overfalllaw20_awake_l122_ok : Sound P (.loop (loopBody (codeAt (bodyOf 15) [true, true, true, false, true, false]))) m_overfalllaw20_awake_l122_E := by
  refine loop_sound (evCode_sound W2 O_m_overfalllaw20_awake (loopBody (codeAt (bodyOf 15) [true, true, true, false, true, false])) 244 m_overfalllaw20_awake_l122_owed) 59 [1, 26, 27, 28] [(.exit 0, [1]), (.ret, [0])] m_overfalllaw20_awake_l122 ?_ m_overfalllaw20_awake_l122_p m_overfalllaw20_awake_l122_pok
  intro vs w next out h
  unfold m_overfalllaw20_awake_l122 at h
  split at h
  · exact cast (by kernel_rfl) h
  · exact h.elim
theorem m_overfalllaw20_awake_c7_owed : Owed P O_m_overfalllaw20_awake (codeAt (bodyOf 15) [true, true, true]) 15 := owed_of (cast (by kernel_rfl) m_overfalllaw20_awake_l122_ok)
theorem m_overfalllaw20_awake_c7_ok : Sound P (codeAt (bodyOf 15) [true, true, true]) m_overfalllaw20_awake_c7_E := by
  refine piece_sound (evCode_sound W2 O_m_overfalllaw20_awake (codeAt (bodyOf 15) [true, true, true]) 15 m_overfalllaw20_awake_c7_owed) 59 [1] [(.ret, [0])] m_overfalllaw20_awake_c7 ?_ m_overfalllaw20_awake_c7_p m_overfalllaw20_awake_c7_pok
  intro vs w out h
  unfold m_overfalllaw20_awake_c7 at h
  split at h
  · exact cast (by kernel_rfl) h
  · exact h.elim
theorem m_overfalllaw20_awake_owed : Owed P O_m_overfalllaw20_awake (bodyOf 15) 1 := owed_of (cast (by kernel_rfl) m_overfalllaw20_awake_c7_ok)
theorem m_overfalllaw20_awake_eq (w0 : World) (K : Value → World → Prop) : m_overfalllaw20_awake w0 K = evCode T0 P O_m_overfalllaw20_awake (bodyOf 15) 1 (env0 (Array.toList #[]) (fnOf 15).ntmps) w0 (endK T0 (fnOf 15).results.toList K) := by kernel_rfl
theorem m_overfalllaw20_awake_ok {w0 : World} {K : Value → World → Prop} (h : m_overfalllaw20_awake w0 K) : CallsV P 15 #[] w0 K :=
  func_sound W2 func_15 body_15 m_overfalllaw20_awake_owed (Eq.mp (m_overfalllaw20_awake_eq w0 K) h)


def m_overfalllaw20_FrontNil_c127 (vs : List Value) (w0 : World) (out : Nat × List Value → World → Prop) : Prop :=
  match vs with
  | [.int .i64 d124] => CallsV P 35 #[] w0 fun v125 w126 => ∃ (n127 : Int) (n128 : Int) (n129 : Int) (n130 : Int) (n131 : Int) (n132 : Int) (n133 : Int) (n134 : Int) (n135 : Int) (n136 : Int) (n137 : Int) (n138 : Int) (n139 : Int) (n140 : Int) (n141 : Int) (n142 : Int), v125 = (.agg #[(.int .i64 n127), (.int .i64 n128), (.int .i64 n129), (.int .i64 n130), (.int .i64 n131), (.int .i64 n132), (.int .i64 n133), (.int .i64 n134), (.int .i64 n135), (.int .i64 n136), (.int .i64 n137), (.int .i64 n138), (.int .i64 n139), (.int .i64 n140), (.int .i64 n141), (.int .i64 n142)]) ∧ CallsV P 16 #[(.agg #[(.int .i64 n127), (.int .i64 n128), (.int .i64 n129), (.int .i64 n130), (.int .i64 n131), (.int .i64 n132), (.int .i64 n133), (.int .i64 n134), (.int .i64 n135), (.int .i64 n136), (.int .i64 n137), (.int .i64 n138), (.int .i64 n139), (.int .i64 n140), (.int .i64 n141), (.int .i64 n142)])] w126 fun v143 w144 => ∃ (p145 : Option Addr) (n146 : Int), v143 = (.tuple #[(.pointer p145), (.int .i64 n146)]) ∧ CallsV P 17 #[(.pointer p145), (.int .i64 d124)] w144 fun v147 w148 => v147 = (.tuple #[]) ∧ CallsV P 24 #[(.pointer p145)] w148 fun v149 w150 => ∃ (n151 : Int), v149 = (.int .i64 n151) ∧ CallsV P 17 #[(.pointer p145), (.int .i64 9223372036854775807)] w150 fun v152 w153 => v152 = (.tuple #[]) ∧ (if (decide (n151 = (if 0 > d124 then 0 else d124))) = true then CallsV P 24 #[(.pointer p145)] w153 fun v154 w155 => ∃ (n156 : Int), v154 = (.int .i64 n156) ∧ out (0, [(.bool (decide (n156 = 9223372036854775807)))]) w155 else out (0, [(.bool false)]) w153)
  | _ => False

def m_overfalllaw20_FrontNil_c127_o (y : Nat × List Value) (k0 : Bool → Prop) : Prop :=
  match y with
  | (0, [.bool b157]) => k0 b157
  | _ => False

/-- overfall/overfalllaw20.FrontNil -/
def m_overfalllaw20_FrontNil (c1 : Int) (c2 : Int) (c3 : Int) (c4 : Int) (c5 : Int) (c6 : Int) (c7 : Int) (c8 : Int) (c9 : Int) (c10 : Int) (c11 : Int) (c12 : Int) (c13 : Int) (c14 : Int) (c15 : Int) (c16 : Int) (thread17 : Int) (op18 : Int) (op19 : Int) (op20 : Int) (op21 : Int) (d22 : Int) (w0 : World) (K : Value → World → Prop) : Prop :=
  Al #[(.int .i64 c1), (.int .i64 c2), (.int .i64 c3), (.int .i64 c4), (.int .i64 c5), (.int .i64 c6), (.int .i64 c7), (.int .i64 c8), (.int .i64 c9), (.int .i64 c10), (.int .i64 c11), (.int .i64 c12), (.int .i64 c13), (.int .i64 c14), (.int .i64 c15), (.int .i64 c16)] 24 w0 fun b23 w24 => Al #[(.int .u8 op18), (.int .i64 op19), (.int .i64 op20), (.int .i64 op21)] 32 w24 fun b25 w26 => CallsV P 15 #[] w26 fun v27 w28 => ∃ (b29 : Bool), v27 = (.bool b29) ∧ (if (!b29) = true then K (.bool false) w28 else ∃ (n30 : Int), World.cell? w28 ((⟨b23, 0, none⟩ : Addr).add 0) = some (.int .i64 n30) ∧ ∃ (n31 : Int), World.cell? w28 ((⟨b23, 0, none⟩ : Addr).add 1) = some (.int .i64 n31) ∧ ∃ (n32 : Int), World.cell? w28 ((⟨b23, 0, none⟩ : Addr).add 2) = some (.int .i64 n32) ∧ ∃ (n33 : Int), World.cell? w28 ((⟨b23, 0, none⟩ : Addr).add 3) = some (.int .i64 n33) ∧ ∃ (n34 : Int), World.cell? w28 ((⟨b23, 0, none⟩ : Addr).add 4) = some (.int .i64 n34) ∧ ∃ (n35 : Int), World.cell? w28 ((⟨b23, 0, none⟩ : Addr).add 5) = some (.int .i64 n35) ∧ ∃ (n36 : Int), World.cell? w28 ((⟨b23, 0, none⟩ : Addr).add 6) = some (.int .i64 n36) ∧ ∃ (n37 : Int), World.cell? w28 ((⟨b23, 0, none⟩ : Addr).add 7) = some (.int .i64 n37) ∧ ∃ (n38 : Int), World.cell? w28 ((⟨b23, 0, none⟩ : Addr).add 8) = some (.int .i64 n38) ∧ ∃ (n39 : Int), World.cell? w28 ((⟨b23, 0, none⟩ : Addr).add 9) = some (.int .i64 n39) ∧ ∃ (n40 : Int), World.cell? w28 ((⟨b23, 0, none⟩ : Addr).add 10) = some (.int .i64 n40) ∧ ∃ (n41 : Int), World.cell? w28 ((⟨b23, 0, none⟩ : Addr).add 11) = some (.int .i64 n41) ∧ ∃ (n42 : Int), World.cell? w28 ((⟨b23, 0, none⟩ : Addr).add 12) = some (.int .i64 n42) ∧ ∃ (n43 : Int), World.cell? w28 ((⟨b23, 0, none⟩ : Addr).add 13) = some (.int .i64 n43) ∧ ∃ (n44 : Int), World.cell? w28 ((⟨b23, 0, none⟩ : Addr).add 14) = some (.int .i64 n44) ∧ ∃ (n45 : Int), World.cell? w28 ((⟨b23, 0, none⟩ : Addr).add 15) = some (.int .i64 n45) ∧ CallsV P 16 #[(.agg #[(.int .i64 n30), (.int .i64 n31), (.int .i64 n32), (.int .i64 n33), (.int .i64 n34), (.int .i64 n35), (.int .i64 n36), (.int .i64 n37), (.int .i64 n38), (.int .i64 n39), (.int .i64 n40), (.int .i64 n41), (.int .i64 n42), (.int .i64 n43), (.int .i64 n44), (.int .i64 n45)])] w28 fun v46 w47 => ∃ (p48 : Option Addr) (n49 : Int), v46 = (.tuple #[(.pointer p48), (.int .i64 n49)]) ∧ CallsV P 17 #[(.pointer none), (.int .i64 d22)] w47 fun v50 w51 => v50 = (.tuple #[]) ∧ CallsV P 21 #[(.pointer none), (.int .i64 thread17)] w51 fun v52 w53 => ∃ (n54 : Int) (n55 : Int) (n56 : Int) (n57 : Int) (n58 : Int) (b59 : Bool), v52 = (.tuple #[(.agg #[(.int .u8 n54), (.int .u64 n55), (.int .i64 n56), (.int .i64 n57), (.int .i64 n58)]), (.bool b59)]) ∧ Al #[(.int .u8 0), (.int .u64 0), (.int .i64 0), (.int .i64 0), (.int .i64 0)] 42 w53 fun b60 w61 => St ((⟨b60, 0, none⟩ : Addr).add 0) (.int .u8 n54) w61 fun w62 => St ((⟨b60, 0, none⟩ : Addr).add 1) (.int .u64 n55) w62 fun w63 => St ((⟨b60, 0, none⟩ : Addr).add 2) (.int .i64 n56) w63 fun w64 => St ((⟨b60, 0, none⟩ : Addr).add 3) (.int .i64 n57) w64 fun w65 => St ((⟨b60, 0, none⟩ : Addr).add 4) (.int .i64 n58) w65 fun w66 => ∃ (n67 : Int), World.cell? w66 ((⟨b23, 0, none⟩ : Addr).add 0) = some (.int .i64 n67) ∧ ∃ (n68 : Int), World.cell? w66 ((⟨b23, 0, none⟩ : Addr).add 1) = some (.int .i64 n68) ∧ ∃ (n69 : Int), World.cell? w66 ((⟨b23, 0, none⟩ : Addr).add 2) = some (.int .i64 n69) ∧ ∃ (n70 : Int), World.cell? w66 ((⟨b23, 0, none⟩ : Addr).add 3) = some (.int .i64 n70) ∧ ∃ (n71 : Int), World.cell? w66 ((⟨b23, 0, none⟩ : Addr).add 4) = some (.int .i64 n71) ∧ ∃ (n72 : Int), World.cell? w66 ((⟨b23, 0, none⟩ : Addr).add 5) = some (.int .i64 n72) ∧ ∃ (n73 : Int), World.cell? w66 ((⟨b23, 0, none⟩ : Addr).add 6) = some (.int .i64 n73) ∧ ∃ (n74 : Int), World.cell? w66 ((⟨b23, 0, none⟩ : Addr).add 7) = some (.int .i64 n74) ∧ ∃ (n75 : Int), World.cell? w66 ((⟨b23, 0, none⟩ : Addr).add 8) = some (.int .i64 n75) ∧ ∃ (n76 : Int), World.cell? w66 ((⟨b23, 0, none⟩ : Addr).add 9) = some (.int .i64 n76) ∧ ∃ (n77 : Int), World.cell? w66 ((⟨b23, 0, none⟩ : Addr).add 10) = some (.int .i64 n77) ∧ ∃ (n78 : Int), World.cell? w66 ((⟨b23, 0, none⟩ : Addr).add 11) = some (.int .i64 n78) ∧ ∃ (n79 : Int), World.cell? w66 ((⟨b23, 0, none⟩ : Addr).add 12) = some (.int .i64 n79) ∧ ∃ (n80 : Int), World.cell? w66 ((⟨b23, 0, none⟩ : Addr).add 13) = some (.int .i64 n80) ∧ ∃ (n81 : Int), World.cell? w66 ((⟨b23, 0, none⟩ : Addr).add 14) = some (.int .i64 n81) ∧ ∃ (n82 : Int), World.cell? w66 ((⟨b23, 0, none⟩ : Addr).add 15) = some (.int .i64 n82) ∧ CallsV P 34 #[(.agg #[(.int .i64 n67), (.int .i64 n68), (.int .i64 n69), (.int .i64 n70), (.int .i64 n71), (.int .i64 n72), (.int .i64 n73), (.int .i64 n74), (.int .i64 n75), (.int .i64 n76), (.int .i64 n77), (.int .i64 n78), (.int .i64 n79), (.int .i64 n80), (.int .i64 n81), (.int .i64 n82)])] w66 fun v83 w84 => ∃ (n85 : Int), v83 = (.int .i64 n85) ∧ (if (!((decide (n49 = 0)) == (decide (n85 = 0)))) = true then K (.bool false) w84 else (if ((Option.isNone p48) == (decide (n49 = 0))) = true then K (.bool false) w84 else ∃ (n86 : Int), World.cell? w84 ((⟨b25, 0, none⟩ : Addr).add 0) = some (.int .u8 n86) ∧ ∃ (n87 : Int), World.cell? w84 ((⟨b25, 0, none⟩ : Addr).add 1) = some (.int .i64 n87) ∧ ∃ (n88 : Int), World.cell? w84 ((⟨b25, 0, none⟩ : Addr).add 2) = some (.int .i64 n88) ∧ ∃ (n89 : Int), World.cell? w84 ((⟨b25, 0, none⟩ : Addr).add 3) = some (.int .i64 n89) ∧ CallsV P 19 #[(.pointer none), (.int .i64 thread17), (.agg #[(.int .u8 n86), (.int .i64 n87), (.int .i64 n88), (.int .i64 n89)])] w84 fun v90 w91 => ∃ (n92 : Int), v90 = (.int .i64 n92) ∧ (if (!decide (n92 = 3)) = true then K (.bool false) w91 else (if b59 = true then K (.bool false) w91 else ∃ (n93 : Int), World.cell? w91 ((⟨b25, 0, none⟩ : Addr).add 0) = some (.int .u8 n93) ∧ ∃ (n94 : Int), World.cell? w91 ((⟨b25, 0, none⟩ : Addr).add 1) = some (.int .i64 n94) ∧ ∃ (n95 : Int), World.cell? w91 ((⟨b25, 0, none⟩ : Addr).add 2) = some (.int .i64 n95) ∧ ∃ (n96 : Int), World.cell? w91 ((⟨b25, 0, none⟩ : Addr).add 3) = some (.int .i64 n96) ∧ CallsV P 26 #[(.pointer none), (.int .i64 thread17), (.agg #[(.int .u8 n93), (.int .i64 n94), (.int .i64 n95), (.int .i64 n96)])] w91 fun v97 w98 => ∃ (n99 : Int) (n100 : Int) (n101 : Int) (n102 : Int) (n103 : Int), v97 = (.agg #[(.int .u8 n99), (.int .u64 n100), (.int .i64 n101), (.int .i64 n102), (.int .i64 n103)]) ∧ (if (!(decide (n99 = 0) && (decide (n100 = 0) && (decide (n101 = 0) && (decide (n102 = 0) && (decide (n103 = 0) && true)))))) = true then K (.bool false) w98 else CallsV P 18 #[(.pointer none), (.int .i64 thread17)] w98 fun v104 w105 => ∃ (n106 : Int), v104 = (.int .i64 n106) ∧ (if (!decide (n106 = 0)) = true then K (.bool false) w105 else CallsV P 24 #[(.pointer none)] w105 fun v107 w108 => ∃ (n109 : Int), v107 = (.int .i64 n109) ∧ (if (!decide (n109 = 0)) = true then K (.bool false) w108 else CallsV P 23 #[(.pointer none)] w108 fun v110 w111 => ∃ (n112 : Int), v110 = (.int .i64 n112) ∧ CallsV P 22 #[(.pointer none)] w111 fun v113 w114 => ∃ (n115 : Int), v113 = (.int .i64 n115) ∧ CallsV P 20 #[(.pointer none)] w114 fun v116 w117 => ∃ (sA118 : Option Addr) (sL119 : Nat) (sC120 : Nat), v116 = (.slice sA118 sL119 sC120) ∧ (if (!decide ((IntKind.wrap .i64 ((IntKind.wrap .i64 (n112 + n115)) + ((sL119 : Nat) : Int))) = 0)) = true then K (.bool false) w117 else CallsV P 30 #[(.pointer none)] w117 fun v121 w122 => ∃ (p123 : Option Addr), v121 = (.pointer p123) ∧ (if (!Option.isNone p123) = true then K (.bool false) w122 else m_overfalllaw20_FrontNil_c127 [(.int .i64 d22)] w122 fun y159 w158 => m_overfalllaw20_FrontNil_c127_o y159 (fun b160 => K (.bool b160) w158)))))))))))

theorem func_8 : P.funcs[8]? = some (fnOf 8) := by kernel_rfl
theorem body_8 : (fnOf 8).body = some (bodyOf 8) := by kernel_rfl
def m_overfalllaw20_FrontNil_c127_p (y : Nat × List Value) (k : Nat × List Value → Prop) : Prop := m_overfalllaw20_FrontNil_c127_o y (fun b157 => k (0, [(.bool b157)]))
theorem m_overfalllaw20_FrontNil_c127_pok : ∀ y k, m_overfalllaw20_FrontNil_c127_p y k → k y := by
  intro y k h
  unfold m_overfalllaw20_FrontNil_c127_p m_overfalllaw20_FrontNil_c127_o at h
  split at h <;> first | exact h | exact h.elim
def m_overfalllaw20_FrontNil_c127_E : Env → World → Kont → Prop := (fun e w k => takeK 113 [3] e fun vs => m_overfalllaw20_FrontNil_c127 vs w fun y w => m_overfalllaw20_FrontNil_c127_p y fun y => outK 113 [(.ret, [8])] k y w)
def O_m_overfalllaw20_FrontNil : Orac := { loop := fun p => (fun _ _ _ => False), cut := fun p => cond (Nat.beq p 127) (some m_overfalllaw20_FrontNil_c127_E) (none) }
theorem m_overfalllaw20_FrontNil_c127_owed : Owed P O_m_overfalllaw20_FrontNil (codeAt (bodyOf 8) [true, true, true, true, true, true, true]) 255 := owed_of (cast (by kernel_rfl) True.intro)
theorem m_overfalllaw20_FrontNil_c127_ok : Sound P (codeAt (bodyOf 8) [true, true, true, true, true, true, true]) m_overfalllaw20_FrontNil_c127_E := by
  refine piece_sound (evCode_sound W2 O_m_overfalllaw20_FrontNil (codeAt (bodyOf 8) [true, true, true, true, true, true, true]) 255 m_overfalllaw20_FrontNil_c127_owed) 113 [3] [(.ret, [8])] m_overfalllaw20_FrontNil_c127 ?_ m_overfalllaw20_FrontNil_c127_p m_overfalllaw20_FrontNil_c127_pok
  intro vs w out h
  unfold m_overfalllaw20_FrontNil_c127 at h
  split at h
  · exact cast (by kernel_rfl) h
  · exact h.elim
theorem m_overfalllaw20_FrontNil_owed : Owed P O_m_overfalllaw20_FrontNil (bodyOf 8) 1 := owed_of (cast (by kernel_rfl) m_overfalllaw20_FrontNil_c127_ok)
theorem m_overfalllaw20_FrontNil_eq (c1 : Int) (c2 : Int) (c3 : Int) (c4 : Int) (c5 : Int) (c6 : Int) (c7 : Int) (c8 : Int) (c9 : Int) (c10 : Int) (c11 : Int) (c12 : Int) (c13 : Int) (c14 : Int) (c15 : Int) (c16 : Int) (thread17 : Int) (op18 : Int) (op19 : Int) (op20 : Int) (op21 : Int) (d22 : Int) (w0 : World) (K : Value → World → Prop) : m_overfalllaw20_FrontNil c1 c2 c3 c4 c5 c6 c7 c8 c9 c10 c11 c12 c13 c14 c15 c16 thread17 op18 op19 op20 op21 d22 w0 K = evCode T0 P O_m_overfalllaw20_FrontNil (bodyOf 8) 1 (env0 (Array.toList #[(.agg #[(.int .i64 c1), (.int .i64 c2), (.int .i64 c3), (.int .i64 c4), (.int .i64 c5), (.int .i64 c6), (.int .i64 c7), (.int .i64 c8), (.int .i64 c9), (.int .i64 c10), (.int .i64 c11), (.int .i64 c12), (.int .i64 c13), (.int .i64 c14), (.int .i64 c15), (.int .i64 c16)]), (.int .i64 thread17), (.agg #[(.int .u8 op18), (.int .i64 op19), (.int .i64 op20), (.int .i64 op21)]), (.int .i64 d22)]) (fnOf 8).ntmps) w0 (endK T0 (fnOf 8).results.toList K) := by kernel_rfl
theorem m_overfalllaw20_FrontNil_ok {c1 : Int} {c2 : Int} {c3 : Int} {c4 : Int} {c5 : Int} {c6 : Int} {c7 : Int} {c8 : Int} {c9 : Int} {c10 : Int} {c11 : Int} {c12 : Int} {c13 : Int} {c14 : Int} {c15 : Int} {c16 : Int} {thread17 : Int} {op18 : Int} {op19 : Int} {op20 : Int} {op21 : Int} {d22 : Int} {w0 : World} {K : Value → World → Prop} (h : m_overfalllaw20_FrontNil c1 c2 c3 c4 c5 c6 c7 c8 c9 c10 c11 c12 c13 c14 c15 c16 thread17 op18 op19 op20 op21 d22 w0 K) : CallsV P 8 #[(.agg #[(.int .i64 c1), (.int .i64 c2), (.int .i64 c3), (.int .i64 c4), (.int .i64 c5), (.int .i64 c6), (.int .i64 c7), (.int .i64 c8), (.int .i64 c9), (.int .i64 c10), (.int .i64 c11), (.int .i64 c12), (.int .i64 c13), (.int .i64 c14), (.int .i64 c15), (.int .i64 c16)]), (.int .i64 thread17), (.agg #[(.int .u8 op18), (.int .i64 op19), (.int .i64 op20), (.int .i64 op21)]), (.int .i64 d22)] w0 K :=
  func_sound W2 func_8 body_8 m_overfalllaw20_FrontNil_owed (Eq.mp (m_overfalllaw20_FrontNil_eq c1 c2 c3 c4 c5 c6 c7 c8 c9 c10 c11 c12 c13 c14 c15 c16 thread17 op18 op19 op20 op21 d22 w0 K) h)


end Go.M
