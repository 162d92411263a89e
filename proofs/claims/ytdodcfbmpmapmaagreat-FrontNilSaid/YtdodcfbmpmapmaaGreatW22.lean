/- Proofs about the front of the overload controller, part 22: C42 C43. -/
import Derived.Test.YtdodcfbmpmapmaaGreatW21
set_option linter.all false
set_option linter.constructorNameAsVariable false
set_option linter.unusedVariables false
/- awake: a front of one call. -/
set_option linter.all false
set_option linter.constructorNameAsVariable false
set_option maxRecDepth 100000
namespace Go.M
open Go Go.Eng Go.RowKit

variable {w w' w1 w2 : World} {d d' d2 : FIds} {f f2 : FrontC} {K : Value → World → Prop} {k : Nat} {c : Cf}

def Awi : Nat → FrontC → Prop
  | 0, f => AwS f 1 0 0 0 0 0 0 false false 0 0 0 false
  | 1, f => AwS f 2 1 0 0 0 0 0 true false 4 0 0 false
  | 2, f => AwS f 2 1 1 0 0 0 0 true false 3 0 0 false
  | 3, f => AwS f 3 1 1 0 1 0 0 false false 0 0 0 false
  | 4, f => AwS f 4 1 1 0 1 0 0 false false 0 0 0 false
  | 5, f => AwS f 5 1 1 0 1 1 4 true true 0 0 0 false
  | 6, f => AwS f 5 1 1 0 1 1 4 true true 1 0 0 false
  | 7, f => AwS f 5 1 1 0 1 1 4 true true 2 0 0 false
  | 8, f => AwS f 5 1 1 1 1 1 4 true true 3 0 0 false
  | 9, f => AwS f 6 1 1 1 4 1 4 false true 0 0 0 false
  | 10, f => AwS f 7 1 1 1 4 1 4 false true 0 0 0 true
  | 11, f => AwS f 5 2 1 1 4 1 3 true true 0 0 0 true
  | 12, f => AwS f 5 2 1 1 4 1 3 true true 1 1 0 true
  | 13, f => AwS f 8 2 1 1 4 1 3 false true 0 0 0 true
  | _, f => AwS f 3 2 1 1 4 0 3 false true 0 0 0 true

def awL : Array Value := #[(.int .i64 1), (.int .i64 2), (.int .i64 2), (.int .i64 3), (.int .i64 4), (.int .i64 5), (.int .i64 5), (.int .i64 5), (.int .i64 5), (.int .i64 6), (.int .i64 7), (.int .i64 5), (.int .i64 5), (.int .i64 8)]

theorem lt14 {i : Nat} (h : i < 14) : i = 0 ∨ i = 1 ∨ i = 2 ∨ i = 3 ∨ i = 4 ∨ i = 5 ∨ i = 6 ∨ i = 7 ∨ i = 8 ∨ i = 9 ∨ i = 10 ∨ i = 11 ∨ i = 12 ∨ i = 13 := by omega

theorem aw_where {i : Nat} (h : i < 14) (s : Awi i f) : f.h.n = 4 ∧ awL[i]? = some (.int .i64 (f.h.next 0)) := by
  rcases lt14 h with rfl | rfl | rfl | rfl | rfl | rfl | rfl | rfl | rfl | rfl | rfl | rfl | rfl | rfl <;>
  · have h1 := AwS.n s
    have h2 := AwS.next s
    rw [h2]
    exact ⟨h1, rfl⟩

theorem aw_step {i : Nat} (h : i < 14) (a : FAt w d f) (s : Awi i f) (hK : ∀ w' d' f', Stp w w' d d' → FAt w' d' f' → Awi (i + 1) f' → K (.tuple #[Rs.zero.v, .bool false]) w') : StepC d w K := by
  rcases lt14 h with rfl | rfl | rfl | rfl | rfl | rfl | rfl | rfl | rfl | rfl | rfl | rfl | rfl | rfl
  · exact aw1 a s hK
  · exact aw2 a s hK
  · exact aw3 a s hK
  · exact aw4 a s hK
  · exact aw5 a s hK
  · exact aw6 a s hK
  · exact aw7 a s hK
  · exact aw8 a s hK
  · exact aw9 a s hK
  · exact aw10 a s hK
  · exact aw11 a s hK
  · exact aw12 a s hK
  · exact aw13 a s hK
  · exact aw14 a s hK

theorem aw_loop (a : FAt w d f) (s : Awi 0 f) {lb : Nat} (hl : ∀ i v, awL[i]? = some v → w.cell? ⟨lb, i, none⟩ = some v) (ht : d.tag lb = .other) (hlt : lb < w.heap.size) {out : Nat × List Value → World → Prop}
    (hK : ∀ w' d' f', Stp w w' d d' → FAt w' d' f' → Awi 14 f' → out (0, [.pointer (some ⟨d'.fb, 0, none⟩)]) w') :
    LoopP m_overfalllaw20_awake_l122 [.pointer (some ⟨d.fb, 0, none⟩), .slice (some ⟨lb, 0, none⟩) 14 14, .int .i64 (14 : Int), .int .i64 0] w out := by
  refine loop_count 14 (fun i w' => ∃ d' f', Stp w w' d d' ∧ FAt w' d' f' ∧ Awi i f')
    (fun i => [.pointer (some ⟨d.fb, 0, none⟩), .slice (some ⟨lb, 0, none⟩) 14 14, .int .i64 (14 : Int), .int .i64 (i : Int)]) ?_ ?_ ⟨d, f, Stp.refl _ _, a, s⟩
  · rintro i w1 next hi ⟨d1, f1, s1, a1, h1⟩ hnext
    unfold m_overfalllaw20_awake_l122
    simp only
    refine if_yes (by simp; omega) (ix_nat hi ?_)
    obtain ⟨hn, hv⟩ := aw_where hi h1
    simp only [addr_add, Nat.add_zero, Nat.zero_add, Int.toNat_natCast, Nat.mul_one]
    obtain ⟨S, hS1, hS2⟩ := s1.notin ht hlt
    refine ld_int (hS1.cell (hl _ _ hv) hS2) ?_
    have ef : d.fb = d1.fb := s1.fb.symm
    rw [ef]
    refine where_ok a1 ⟨_, rfl, ?_⟩
    rw [if_pos (show (0 : Int) ≤ 0 ∧ (0 : Int) < (f1.h.n : Int) by rw [hn]; decide)]
    refine if_no (by simp) ?_
    refine aw_step hi a1 h1 fun w2 d2 f2 s2 a2 h2 => ⟨_, _, _, _, _, _, rfl, al_intro ?_⟩
    obtain ⟨w3, hw3⟩ : ∃ w3, w2.alloc (.cells #[.int .u8 0, .int .u64 0, .int .i64 0, .int .i64 0, .int .i64 0] 42) = w3 := ⟨_, rfl⟩
    have o3 : Only [] w2 w3 := by rw [← hw3]; exact Only.alloc _ _
    have hr : RsAt w3 w2.heap.size Rs.zero := by rw [← hw3]; exact rs_new w2
    rw [hw3]
    have a3 := a2.only0 o3
    have ht3 : d2.tag w2.heap.size = .other := a2.t_new _ (Nat.le_refl _)
    have s12 := s1.trans s2
    refine rs_put hr Rs.zero fun w4 o4 _ => if_no (by simp) ?_
    have a4 := a3.only o4 fun b hb => .inl (by rw [List.mem_singleton.1 hb]; exact ht3)
    have s4 : Stp w w4 d d2 := stp_ans (s12.trans (Stp.of0 o3)) s12.size o4
    rw [IntWalk.i64_in _ (by omega), ← ef]
    exact hnext w4 ⟨d2, f2, s4, a4, h2⟩
  · rintro w1 next ⟨d1, f1, s1, a1, h1⟩
    unfold m_overfalllaw20_awake_l122
    simp only
    refine if_no (by simp) ?_
    have ef : d.fb = d1.fb := s1.fb.symm
    rw [ef]
    exact hK w1 d1 f1 s1 a1 h1

theorem stp_only {w0 : World} (ho : Only [] w0 w) (hT : ∀ b, d.tag b ≠ .other → w0.heap.size ≤ b) (s : Stp w w' d d') : Only [] w0 w' := by
  obtain ⟨S, h1, h2⟩ := s.fr
  refine ho.trans_new h1 fun b hb => .inr ?_
  rcases h2 b hb with h | h
  · exact hT b h
  · exact Nat.le_trans ho.size h

theorem awake_ok (hK : ∀ w', Only [] w w' → K (.bool true) w') : CallsV P 15 #[] w K := by
  refine m_overfalllaw20_awake_ok ?_
  unfold m_overfalllaw20_awake
  refine default_ok fun w1 o1 => ⟨_, _, _, _, _, _, _, _, _, _, _, _, _, _, _, _, rfl, ?_⟩
  refine frontNew_ok (c := cfDefault) default_valid fun w2 d f o2 hT a nf => ⟨_, _, rfl, if_no (by simp) (if_no (by simp) ?_)⟩
  have hn : f.h.n = 4 := by have := nf.n; have e : cfDefault.threads = 4 := rfl; omega
  have hrn : f.r.n = 4 := by have := nf.rn; have e : cfDefault.ring = 4 := rfl; omega
  refine begin_ok (k := 0) (op := ⟨0, 0, 0, 9⟩) a (by omega) (nf.next 0) fun w3 s3 a3 => ⟨_, rfl, if_no (by simp) ?_⟩
  unfold m_overfalllaw20_awake_c7
  refine al_intro ?_
  have h3 : Awi 0 (((((f.sKind 0 0).sTier 0 0).sCohort 0 0).sNum 0 9).sNext 0 1) := by
    clear a3 s3 a hT hK
    obtain ⟨q, lg, hch⟩ := nf.ch
    have e1 := nf.number 0 (by omega)
    have e2 := nf.number 1 (by omega)
    have e3 := nf.clock
    have e4 := nf.whose 0
    have e5 := nf.left 0
    have e6 := nf.tail
    have e7 := nf.head
    have e8 := nf.bs 0
    have e9 := nf.lk
    have e10 := nf.ap
    have e11 := nf.cn
    have e12 := nf.T
    have e13 := nf.rows
    have e14 : cfDefault.room.toNat = 64 := rfl
    show AwS _ 1 0 0 0 0 0 0 false false 0 0 0 false
    constructor <;> simp_all [FrontC.sNext, FrontC.sKind, FrontC.sTier, FrontC.sCohort, FrontC.sNum, upd_same, BoxM.new]
    exact ⟨_, _, rfl⟩
  obtain ⟨f3, hf3⟩ : ∃ f3, ((((f.sKind 0 0).sTier 0 0).sCohort 0 0).sNum 0 9).sNext 0 1 = f3 := ⟨_, rfl⟩
  rw [hf3] at h3
  have a3' : FAt w3 d f3 := by rw [← hf3]; exact a3
  obtain ⟨w4, hw4⟩ : ∃ w4, w3.alloc (.cells awL 3) = w4 := ⟨_, rfl⟩
  have o4 : Only [] w3 w4 := by rw [← hw4]; exact Only.alloc _ _
  have hl : ∀ i v, awL[i]? = some v → w4.cell? ⟨w3.heap.size, i, none⟩ = some v := fun i v hv => by rw [← hw4, cell_new, if_pos rfl]; exact hv
  have z4 : w4.heap.size = w3.heap.size + 1 := by rw [← hw4, World.size_alloc]
  unfold awL at hw4
  rw [hw4]
  have a4 := a3'.only0 o4
  have ht4 : d.tag w3.heap.size = .other := a3'.t_new _ (Nat.le_refl _)
  refine aw_loop a4 h3 hl ht4 (by omega) fun w5 d5 f5 s5 a5 h5 => ?_
  simp only [m_overfalllaw20_awake_l122_o]
  refine aw15 a5 h5 fun w6 d6 f6 r s6 a6 hn6 hx6 hr6 => ⟨_, _, _, _, _, _, rfl, al_intro ?_⟩
  obtain ⟨w7, hw7⟩ : ∃ w7, w6.alloc (.cells #[.int .u8 0, .int .u64 0, .int .i64 0, .int .i64 0, .int .i64 0] 42) = w7 := ⟨_, rfl⟩
  have o7 : Only [] w6 w7 := by rw [← hw7]; exact Only.alloc _ _
  have hr : RsAt w7 w6.heap.size Rs.zero := by rw [← hw7]; exact rs_new w6
  rw [hw7]
  have a7 := a6.only0 o7
  have ht7 : d6.tag w6.heap.size = .other := a6.t_new _ (Nat.le_refl _)
  have s26 : Stp w2 w6 d d6 := ((s3.trans (Stp.of0 o4)).trans s5).trans s6
  simp only [addr_add, Nat.add_zero, Nat.zero_add]
  refine rs_put hr r fun w8 o8 hr8 => if_yes trivial (ld_int hr8.c0 (if_yes (by simp [hr6]) ?_))
  have a8 := a7.only o8 fun b hb => .inl (by rw [List.mem_singleton.1 hb]; exact ht7)
  have s8 : Stp w2 w8 d d6 := stp_ans (s26.trans (Stp.of0 o7)) s26.size o8
  have e5 : d5.fb = d6.fb := s6.fb.symm
  rw [e5]
  refine where_ok a8 ⟨_, rfl, ?_⟩
  rw [if_pos (show (0 : Int) ≤ 0 ∧ (0 : Int) < (f6.h.n : Int) by rw [hn6]; decide)]
  have e0 : f6.h.next ((0 : Int).toNat) = 0 := hx6
  rw [e0]
  simp only [m_overfalllaw20_awake_c7_o]
  exact hK w8 (stp_only (o1.trans o2) (fun b hb => by have := hT b hb; have := o1.size; omega) s8)

end Go.M

/- The law FrontNil's walk. -/
set_option linter.all false
set_option linter.constructorNameAsVariable false
set_option maxRecDepth 100000
namespace Go.M
open Go Go.Eng Go.RowKit

variable {w w' w1 w2 : World} {d d' d2 : FIds} {f f2 : FrontC} {K : Value → World → Prop} {k : Nat} {c : Cf}

theorem frontNew_any (hK : ∀ w' p n, Only [] w w' → (c.Ok ↔ n = 0) → Option.isNone p = decide (n ≠ 0) → K (.tuple #[.pointer p, .int .i64 n]) w') : CallsV P 16 #[.agg c.cells] w K := by
  by_cases hv : c.Ok
  · exact frontNew_ok hv fun w' d f o _ a _ => hK w' _ 0 o ⟨fun _ => rfl, fun _ => hv⟩ rfl
  · exact frontNew_bad hv fun w' o => hK w' _ 1 o ⟨fun h => absurd h hv, fun h => absurd h (by decide)⟩ rfl

theorem valid_any (hK : ∀ w' n, Only [] w w' → (c.Ok ↔ n = 0) → K (.int .i64 n) w') : CallsV P 34 #[.agg c.cells] w K :=
  valid_ok (c := c) (fun h w' o => hK w' 0 o ⟨fun _ => rfl, fun _ => h⟩) (fun h w' o => hK w' 1 o ⟨fun h' => absurd h' h, fun h' => absurd h' (by decide)⟩)

theorem thread_nil {i : Int} (hK : K (.pointer none) w) : CallsV P 64 #[.pointer none, .int .i64 i] w K := by
  refine m_front_Front_thread_ok ?_
  unfold m_front_Front_thread
  exact if_yes rfl hK

theorem tick_nil {i : Int} (hK : K (.tuple #[]) w) : CallsV P 17 #[.pointer none, .int .i64 i] w K := by
  refine m_front_Front_Tick_ok ?_
  unfold m_front_Front_Tick
  exact if_yes rfl hK

theorem where_nil {i : Int} (hK : K (.int .i64 0) w) : CallsV P 18 #[.pointer none, .int .i64 i] w K := by
  refine m_front_Front_Where_ok ?_
  unfold m_front_Front_Where
  exact thread_nil ⟨_, rfl, if_yes rfl hK⟩

theorem now_nil (hK : K (.int .i64 0) w) : CallsV P 24 #[.pointer none] w K := by
  refine m_front_Front_Now_ok ?_
  unfold m_front_Front_Now
  exact if_yes rfl hK

theorem threads_nil (hK : K (.int .i64 0) w) : CallsV P 23 #[.pointer none] w K := by
  refine m_front_Front_Threads_ok ?_
  unfold m_front_Front_Threads
  exact if_yes rfl hK

theorem waiting_nil (hK : K (.int .i64 0) w) : CallsV P 22 #[.pointer none] w K := by
  refine m_front_Front_Waiting_ok ?_
  unfold m_front_Front_Waiting
  exact if_yes rfl hK

theorem applied_nil (hK : K (.slice none 0 0) w) : CallsV P 20 #[.pointer none] w K := by
  refine m_front_Front_Applied_ok ?_
  unfold m_front_Front_Applied
  exact if_yes rfl hK

theorem core_nil (hK : K (.pointer none) w) : CallsV P 30 #[.pointer none] w K := by
  refine m_front_Front_Core_ok ?_
  unfold m_front_Front_Core
  exact if_yes rfl hK

theorem begin_nil {i : Int} {op : Opn} (hK : ∀ w', Only [] w w' → K (.int .i64 3) w') : CallsV P 19 #[.pointer none, .int .i64 i, op.v] w K := by
  refine m_front_Front_Begin_ok ?_
  unfold m_front_Front_Begin
  exact al_intro (thread_nil ⟨_, rfl, if_yes rfl (hK _ (Only.alloc _ _))⟩)

theorem step_nil {i : Int} (hK : ∀ w', Only [] w w' → K (.tuple #[Rs.zero.v, .bool false]) w') : CallsV P 21 #[.pointer none, .int .i64 i] w K := by
  refine m_front_Front_Step_ok ?_
  unfold m_front_Front_Step
  refine al_intro (thread_nil ⟨_, rfl, if_yes rfl ?_⟩)
  have o1 : Only [] w (w.alloc (.cells #[.int .u8 0, .int .u64 0, .int .i64 0, .int .i64 0, .int .i64 0] 42)) := Only.alloc _ _
  have hr := rs_new w
  simp only [addr_add, Nat.add_zero, Nat.zero_add]
  exact rs_put hr Rs.zero fun w' o hr' => rs_get hr' (hK w' (o1.trans_new o fun b hb => .inr (by rw [List.mem_singleton.1 hb]; exact Nat.le_refl _)))

theorem OpAt.only {S : List Nat} {b : Nat} {r : Opn} (h : OpAt w b r) (ho : Only S w w') (hs : b ∉ S) : OpAt w' b r :=
  ⟨ho.cell h.c0 hs, ho.cell h.c1 hs, ho.cell h.c2 hs, ho.cell h.c3 hs, fun i => (ho.frozen (cell_lt h.c0) hs).trans (h.z i)⟩

theorem op_new (w : World) (op : Opn) : OpAt (w.alloc (.cells #[.int .u8 op.kind, .int .i64 op.tier, .int .i64 op.cohort, .int .i64 op.num] 32)) w.heap.size op := by
  constructor <;> (try intro i) <;> simp [cell_new, frozen_new]

theorem op_get {b : Nat} {r : Opn} (h : OpAt w b r) {k : Int → Int → Int → Int → Prop} (hk : k r.kind r.tier r.cohort r.num) :
    ∃ n0 : Int, w.cell? ⟨b, 0, none⟩ = some (.int .u8 n0) ∧ ∃ n1 : Int, w.cell? ⟨b, 1, none⟩ = some (.int .i64 n1) ∧ ∃ n2 : Int, w.cell? ⟨b, 2, none⟩ = some (.int .i64 n2) ∧ ∃ n3 : Int, w.cell? ⟨b, 3, none⟩ = some (.int .i64 n3) ∧ k n0 n1 n2 n3 :=
  ld_int h.c0 (ld_int h.c1 (ld_int h.c2 (ld_int h.c3 hk)))

theorem call_nil {i : Int} {op : Opn} (hK : ∀ w', Only [] w w' → K Rs.zero.v w') : CallsV P 26 #[.pointer none, .int .i64 i, op.v] w K := by
  refine m_front_Front_Call_ok ?_
  unfold m_front_Front_Call
  refine al_intro (al_intro ?_)
  have ro := op_new w op
  obtain ⟨w1, hw1⟩ : ∃ w1, w.alloc (.cells #[.int .u8 op.kind, .int .i64 op.tier, .int .i64 op.cohort, .int .i64 op.num] 32) = w1 := ⟨_, rfl⟩
  have o1 : Only [] w w1 := by rw [← hw1]; exact Only.alloc _ _
  rw [hw1] at ro ⊢
  have hr := rs_new w1
  obtain ⟨w2, hw2⟩ : ∃ w2, w1.alloc (.cells #[.int .u8 0, .int .u64 0, .int .i64 0, .int .i64 0, .int .i64 0] 42) = w2 := ⟨_, rfl⟩
  have o2 : Only [] w1 w2 := by rw [← hw2]; exact Only.alloc _ _
  rw [hw2] at hr ⊢
  simp only [addr_add, Nat.add_zero, Nat.zero_add]
  refine op_get (ro.only o2 (by simp)) (begin_nil (op := op) fun w3 o3 => ⟨_, rfl, if_yes (by simp) ?_⟩)
  refine rs_put (hr.only o3 (by simp)) Rs.zero fun w' o hr' => rs_get hr' (hK w' (((o1.trans o2).trans o3).trans_new o fun b hb => .inr ?_))
  rw [List.mem_singleton.1 hb]; exact o1.size

theorem frontNil_ok {op : Opn} {th x : Int} (hx : i64 x) (hK : ∀ w', Only [] w w' → K (.bool true) w') : CallsV P 8 #[.agg c.cells, .int .i64 th, op.v, .int .i64 x] w K := by
  refine m_overfalllaw20_FrontNil_ok ?_
  unfold m_overfalllaw20_FrontNil
  have a0 := cf_new w c 24
  obtain ⟨w0, hw0⟩ : ∃ w0, w.alloc (.cells c.cells 24) = w0 := ⟨_, rfl⟩
  have o0 : Only [] w w0 := by rw [← hw0]; exact Only.alloc _ _
  rw [hw0] at a0
  simp only [Cf.cells] at hw0
  refine al_intro ?_
  rw [hw0]
  refine al_intro ?_
  have ro := op_new w0 op
  obtain ⟨w1, hw1⟩ : ∃ w1, w0.alloc (.cells #[.int .u8 op.kind, .int .i64 op.tier, .int .i64 op.cohort, .int .i64 op.num] 32) = w1 := ⟨_, rfl⟩
  have o1 : Only [] w0 w1 := by rw [← hw1]; exact Only.alloc _ _
  rw [hw1] at ro ⊢
  have o01 := o0.trans o1
  refine awake_ok fun w2 o2 => ⟨_, rfl, if_no (by simp) ?_⟩
  simp only [addr_add, Nat.add_zero, Nat.zero_add]
  have o12 := o01.trans o2
  have a2 := (a0.only o1 (by simp)).only o2 (by simp)
  have r2 := ro.only o2 (by simp)
  refine cf_load a2 (frontNew_any (c := c) fun w3 p n o3 hn hp => ⟨_, _, rfl, tick_nil ⟨rfl, step_nil fun w4 o4 => ⟨_, _, _, _, _, _, rfl, al_intro ?_⟩⟩⟩)
  have o14 := (o12.trans o3).trans o4
  have a4 := (a2.only o3 (by simp)).only o4 (by simp)
  have r4 := (r2.only o3 (by simp)).only o4 (by simp)
  have hr := rs_new w4
  obtain ⟨w5, hw5⟩ : ∃ w5, w4.alloc (.cells #[.int .u8 0, .int .u64 0, .int .i64 0, .int .i64 0, .int .i64 0] 42) = w5 := ⟨_, rfl⟩
  have o5 : Only [] w4 w5 := by rw [← hw5]; exact Only.alloc _ _
  rw [hw5] at hr ⊢
  have l1 : w.heap.size < w4.heap.size := cell_lt a4.c0
  have l2 : w0.heap.size < w4.heap.size := cell_lt r4.c0
  refine rs_put hr Rs.zero fun w6 o6 hr6 => ?_
  have o16 : Only [] w w6 := (o14.trans o5).trans_new o6 fun b hb => .inr (by rw [List.mem_singleton.1 hb]; exact o14.size)
  have a6 := (a4.only o5 (by simp)).only o6 (by simp only [List.mem_singleton]; omega)
  have r6 := (r4.only o5 (by simp)).only o6 (by simp only [List.mem_singleton]; omega)
  refine cf_load a6 (valid_any (c := c) fun w7 m o7 hm => ⟨_, rfl, if_no ?_ (if_no ?_ ?_)⟩)
  · have e : decide (n = 0) = decide (m = 0) := decide_eq_decide.2 (hn.symm.trans hm)
    rw [e]; simp
  · rw [hp]; by_cases e : n = 0 <;> simp [e]
  have o17 := o16.trans o7
  have r7 := r6.only o7 (by simp)
  refine op_get r7 (begin_nil (op := op) fun w8 o8 => ⟨_, rfl, if_no (by simp) (if_no (by simp) ?_)⟩)
  refine op_get (r7.only o8 (by simp)) (call_nil (op := op) fun w9 o9 => ⟨_, _, _, _, _, rfl, if_no (by simp [Rs.zero]) ?_⟩)
  have o19 := (o17.trans o8).trans o9
  refine where_nil ⟨_, rfl, if_no (by simp) (now_nil ⟨_, rfl, if_no (by simp) (threads_nil ⟨_, rfl, waiting_nil ⟨_, rfl, applied_nil ⟨_, _, _, rfl, if_no (by decide) (core_nil ⟨_, rfl, if_no (by simp) ?_⟩)⟩⟩⟩)⟩)⟩
  unfold m_overfalllaw20_FrontNil_c127
  refine default_ok fun wa oa => ⟨_, _, _, _, _, _, _, _, _, _, _, _, _, _, _, _, rfl, ?_⟩
  refine frontNew_ok (c := cfDefault) default_valid fun wb d f ob hT a nf => ⟨_, _, rfl, ?_⟩
  have hc0 : f.h.clock = 0 := nf.clock
  refine tick_ok a (by rw [hc0]; unfold i64; decide) hx fun wc sc ac => ⟨rfl, now_ok ac ⟨_, rfl, ?_⟩⟩
  obtain ⟨f2, hf2⟩ : ∃ f2, (if x ≤ 0 then f else f.sClock (sat (f.h.clock + x))) = f2 := ⟨_, rfl⟩
  have h2 : f2.h.clock = if 0 > x then 0 else x := by
    rw [← hf2]
    by_cases e : x ≤ 0
    · rw [if_pos e, hc0]; split <;> omega
    · rw [if_neg e, if_neg (by omega)]
      show sat (f.h.clock + x) = x
      rw [hc0]; unfold sat; unfold i64 at hx
      rw [if_neg (by omega), if_neg (by omega)]; omega
  have h2' : 0 ≤ f2.h.clock ∧ f2.h.clock ≤ 9223372036854775807 := by
    rw [h2]; unfold i64 at hx; split <;> omega
  rw [hf2] at ac ⊢
  refine tick_ok ac (by unfold i64; omega) (by unfold i64; decide) fun wd sd ad => ⟨rfl, if_yes (by simpa using h2) (now_ok ad ⟨_, rfl, ?_⟩)⟩
  have e : (if (9223372036854775807 : Int) ≤ 0 then f2 else f2.sClock (sat (f2.h.clock + 9223372036854775807))).h.clock = 9223372036854775807 := by
    rw [if_neg (by decide)]
    show sat (f2.h.clock + 9223372036854775807) = _
    unfold sat
    rw [if_neg (by omega)]
    split <;> omega
  rw [e]
  simp only [m_overfalllaw20_FrontNil_c127_o]
  have oab := (o19.trans oa).trans ob
  exact hK wd (stp_only oab (fun b hb => by have := hT b hb; have := (o19.trans oa).size; omega) (sc.trans sd))

end Go.M
