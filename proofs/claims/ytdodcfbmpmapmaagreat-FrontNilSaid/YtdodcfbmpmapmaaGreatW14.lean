/- Proofs about the front of the overload controller, part 14: C11 QN C17 C18 C19 L0. -/
import Derived.Test.YtdodcfbmpmapmaaGreatW13
import Derived.Test.YtdodcfbmpmapmaaGreatW10
import Derived.Test.YtdodcfbmpmapmaaGreatW11
import Derived.Test.YtdodcfbmpmapmaaGreatW04
import Derived.Test.YtdodcfbmpmapmaaGreatW03
set_option linter.all false
set_option linter.constructorNameAsVariable false
set_option linter.unusedVariables false
/- A new queue; what its functions do. -/
set_option linter.all false
set_option linter.constructorNameAsVariable false
set_option maxRecDepth 100000
namespace Go.M
open Go Go.Eng Go.RowKit

/-- the blocks of a queue -/
structure QIds where
  qb : Nat
  hd : Nat
  sp : Nat
  sc : Nat
  rp : Nat
  rr : Nat
  rk : Nat
  hp : Nat
  ha : Nat
  ho : Option Nat

def QIds.fixed (d : QIds) : List Nat := [d.qb, d.hd, d.sp, d.sc, d.rp, d.rr, d.rk, d.hp, d.ha]
def QIds.list (d : QIds) : List Nat := d.ho.toList ++ d.fixed

structure QueueM where
  n : Nat
  tiers : Int
  slab : SlabM
  rows : RowsM
  l : List En
  at_ : Nat → Int
  handles : Nat → Int

structure QueueAt (w : World) (d : QIds) (q : QueueM) : Prop where
  q0 : w.cell? ⟨d.qb, 0, none⟩ = some (.pointer (some ⟨d.sp, 0, none⟩))
  q1 : w.cell? ⟨d.qb, 1, none⟩ = some (.pointer (some ⟨d.rp, 0, none⟩))
  q2 : w.cell? ⟨d.qb, 2, none⟩ = some (.pointer (some ⟨d.hp, 0, none⟩))
  q3 : w.cell? ⟨d.qb, 3, none⟩ = some (.slice (some ⟨d.hd, 0, none⟩) q.n q.n)
  q4 : w.cell? ⟨d.qb, 4, none⟩ = some (.int .i64 q.tiers)
  z_qb : ∀ i, w.frozen? ⟨d.qb, i, none⟩ = false
  z_hd : ∀ i, w.frozen? ⟨d.hd, i, none⟩ = false
  lt_hd : d.hd < w.heap.size
  c_hd : ∀ i, i < q.n → w.cell? ⟨d.hd, i, none⟩ = some (.int .u64 (q.handles i))
  slab : SlabAt w d.sp d.sc q.slab
  rows : RowsAt w d.rp d.rr d.rk q.rows
  heap : HeapAt w d.hp d.ha d.ho q.n q.l q.at_
  nodup : d.list.Nodup
  n_slab : q.slab.n = q.n
  n_rows : q.rows.nk = q.n
  n_tiers : (q.rows.nr : Int) = q.tiers

theorem QueueAt.only {S : List Nat} {w w' : World} {d : QIds} {q : QueueM} (h : QueueAt w d q) (ho : Only S w w') (hs : ∀ b ∈ d.list, b ∉ S) : QueueAt w' d q := by
  have m : ∀ b, b ∈ d.fixed → b ∉ S := fun b hb => hs b (List.mem_append_right _ hb)
  unfold QIds.fixed at m
  exact ⟨ho.cell h.q0 (m _ (by simp)), ho.cell h.q1 (m _ (by simp)), ho.cell h.q2 (m _ (by simp)), ho.cell h.q3 (m _ (by simp)), ho.cell h.q4 (m _ (by simp)), fun i => (ho.frozen (cell_lt h.q0) (m _ (by simp))).trans (h.z_qb i),
    fun i => (ho.frozen h.lt_hd (m _ (by simp))).trans (h.z_hd i), Nat.lt_of_lt_of_le h.lt_hd ho.size, fun i hi => ho.cell (h.c_hd i hi) (m _ (by simp)),
    h.slab.only ho (m _ (by simp)) (m _ (by simp)), h.rows.only ho (m _ (by simp)) (m _ (by simp)) (m _ (by simp)), h.heap.only ho (m _ (by simp)) (m _ (by simp)) (fun b hb => hs b (by unfold QIds.list; rw [hb]; simp)), h.nodup, h.n_slab, h.n_rows, h.n_tiers⟩

theorem queueNew_ok {nr n : Nat} (h1 : 1 ≤ nr) (h2 : nr ≤ 8) (h3 : 1 ≤ n) (h4 : n ≤ 1024) {w : World} {K : Value → World → Prop}
    (hK : ∀ w' d q, Only [] w w' → (∀ b ∈ d.list, w.heap.size ≤ b) → QueueAt w' d q → q.n = n → q.tiers = nr → q.slab = SlabM.new n → q.rows.Empty nr n → q.l = [] → (∀ i, i < n → q.at_ i = -1) → K (.tuple #[.pointer (some ⟨d.qb, 0, none⟩), .int .i64 0]) w') :
    CallsV P 78 #[.int .i64 (nr : Int), .int .i64 (n : Int)] w K := by
  refine m_tierq_New_ok ?_
  unfold m_tierq_New
  refine rowsNew_ok h1 h2 h3 h4 fun w1 rp rr rk r o1 l1 l2 l3 hr er => ⟨_, _, rfl, if_no (by simp) ?_⟩
  refine slabNew_ok h3 h4 fun w2 sp sc o2 l4 l5 hs => ⟨_, _, rfl, ?_⟩
  refine heapNew_ok h3 h4 fun w3 hp ha at_ o3 l6 l7 hh eh => ⟨_, _, rfl, ?_⟩
  refine make_ok W2 (t := 250) (e := 185) (ti := ti185) rfl rfl rfl (by simp [ti185]; omega) (by omega) ⟨_, _, _, rfl, al_intro ?_⟩
  rw [World.size_alloc]
  obtain ⟨W, hW⟩ : ∃ W, (w3.alloc (.cells (madeCells ti185.zero.cells (n * ti185.size)) 185)).alloc (.cells #[(.pointer (some ⟨sp, 0, none⟩)), (.pointer (some ⟨rp, 0, none⟩)), (.pointer (some ⟨hp, 0, none⟩)), (.slice (some ⟨w3.heap.size, 0, none⟩) n n), (.int .i64 (nr : Int))] 252) = W := ⟨_, rfl⟩
  rw [hW]
  have o4 : Only [] w3 W := by rw [← hW]; exact (Only.alloc _ _).trans (Only.alloc _ _)
  have q2 : ¬ (w3.heap.size = w3.heap.size + 1) := by omega
  have hm : ∀ i, i < n → (madeCells ti185.zero.cells (n * ti185.size))[i]? = some (.int .u64 0) := fun i hi => by
    rw [made_get _ _ _ (by show i < n * 1; omega) (by show 0 < 1; omega)]
    have : i % ti185.zero.cells.size = 0 := by show i % 1 = 0; omega
    rw [this]
    rfl
  have g1 := o1.size
  have g2 := o2.size
  have g3 := o3.size
  have k1 := hr.lt_pb
  have k2 := hr.lt_rb
  have k3 := hr.lt_kb
  have k4 := hs.lt_pb
  have k5 := hs.lt_cb
  have k6 := hh.lt_hb
  have k7 := hh.lt_ab
  have n1 := hr.ne_pb_rb
  have n2 := hr.ne_pb_kb
  have n3 := hr.ne_rb_kb
  have n4 := hs.ne_pb_cb
  have n5 := hh.ne
  refine hK W ⟨w3.heap.size + 1, w3.heap.size, sp, sc, rp, rr, rk, hp, ha, none⟩ ⟨n, nr, SlabM.new n, r, [], at_, fun _ => 0⟩ (((o1.trans o2).trans o3).trans o4) ?_ ?_ rfl rfl rfl er rfl eh
  · intro b hb
    simp only [QIds.list, QIds.fixed, Option.toList, List.nil_append, List.mem_cons, List.not_mem_nil, or_false] at hb
    omega
  · refine ⟨?_, ?_, ?_, ?_, ?_, ?_, ?_, ?_, ?_, ?_, ?_, ?_, ?_, rfl, er.enk, by simp only [er.enr]⟩
    · rw [← hW]; simp [cell_new, World.size_alloc]
    · rw [← hW]; simp [cell_new, World.size_alloc]
    · rw [← hW]; simp [cell_new, World.size_alloc]
    · rw [← hW]; simp [cell_new, World.size_alloc]
    · rw [← hW]; simp [cell_new, World.size_alloc]
    · intro i; rw [← hW]; simp [frozen_new, World.size_alloc]
    · intro i; rw [← hW]; simp [frozen_new, World.size_alloc, q2]
    · rw [← hW]; simp [World.size_alloc]; omega
    · intro i hi; rw [← hW]; simp [cell_new, World.size_alloc, q2]; exact hm i hi
    · exact hs.only (o3.trans o4) (by simp) (by simp)
    · exact hr.only ((o2.trans o3).trans o4) (by simp) (by simp) (by simp)
    · exact hh.only o4 (by simp) (by simp) (by simp)
    · simp only [QIds.list, QIds.fixed, Option.toList, List.nil_append, List.nodup_cons, List.mem_cons, List.not_mem_nil, or_false, List.nodup_nil, and_true, not_or, not_false_eq_true]
      omega

variable {w : World} {K : Value → World → Prop} {d : QIds} {q : QueueM}

theorem queueLen_ok (h : QueueAt w d q) (hK : K (.int .i64 q.slab.len) w) : CallsV P 86 #[.pointer (some ⟨d.qb, 0, none⟩)] w K := by
  refine m_tierq_Queue_Len_ok ?_
  exact if_no (by simp) (nn_some (ld_ptr h.q0 (slabLen_ok h.slab ⟨_, rfl, hK⟩)))

theorem queueCount_ok (h : QueueAt w d q) {t : Int} (hK : K (.int .i64 (if 0 ≤ t ∧ t < (q.rows.nr : Int) then q.rows.count t.toNat else 0)) w) : CallsV P 132 #[.pointer (some ⟨d.qb, 0, none⟩), .int .i64 t] w K := by
  refine m_tierq_Queue_Count_ok ?_
  exact if_no (by simp) (nn_some (ld_ptr (by simpa using h.q1) (rowsLen_ok h.rows ⟨_, rfl, hK⟩)))

/-- the handle of a member -/
theorem handle_ok (h : QueueAt w d q) {i : Int} {b : Bool} (hi : b = true → 0 ≤ i ∧ i < (q.n : Int)) (hK : K (.tuple #[.int .u64 (if b = true then q.handles i.toNat else 0), .bool b]) w) : CallsV P 176 #[.pointer (some ⟨d.qb, 0, none⟩), .int .i64 i, .bool b] w K := by
  refine m_tierq_Queue_handle_ok ?_
  unfold m_tierq_Queue_handle
  cases b with
  | false => exact if_yes rfl (by simpa using hK)
  | true =>
    obtain ⟨h0, h1⟩ := hi rfl
    obtain ⟨n, rfl⟩ := Int.eq_ofNat_of_zero_le h0
    have hn : n < q.n := by omega
    refine if_no (by simp) (nn_some ?_)
    simp only [addr_add, Nat.add_zero, Nat.zero_add]
    refine ld_slice h.q3 (ix_nat hn ?_)
    simp only [addr_add, Nat.add_zero, Nat.zero_add, Int.toNat_natCast, Nat.mul_one]
    exact ld_int (h.c_hd n hn) (by simpa using hK)

theorem queueHead_ok (h : QueueAt w d q) {t : Int} (hi : (q.rows.endM t false).2 = true → 0 ≤ (q.rows.endM t false).1 ∧ (q.rows.endM t false).1 < (q.n : Int))
    (hK : K (.tuple #[.int .u64 (if (q.rows.endM t false).2 = true then q.handles (q.rows.endM t false).1.toNat else 0), .bool (q.rows.endM t false).2]) w) : CallsV P 135 #[.pointer (some ⟨d.qb, 0, none⟩), .int .i64 t] w K := by
  refine m_tierq_Queue_Head_ok ?_
  exact if_no (by simp) (nn_some (ld_ptr (by simpa using h.q1) (front_ok h.rows ⟨_, _, rfl, handle_ok h hi ⟨_, _, rfl, hK⟩⟩)))

theorem queueTail_ok (h : QueueAt w d q) {t : Int} (hi : (q.rows.endM t true).2 = true → 0 ≤ (q.rows.endM t true).1 ∧ (q.rows.endM t true).1 < (q.n : Int))
    (hK : K (.tuple #[.int .u64 (if (q.rows.endM t true).2 = true then q.handles (q.rows.endM t true).1.toNat else 0), .bool (q.rows.endM t true).2]) w) : CallsV P 128 #[.pointer (some ⟨d.qb, 0, none⟩), .int .i64 t] w K := by
  refine m_tierq_Queue_Tail_ok ?_
  exact if_no (by simp) (nn_some (ld_ptr (by simpa using h.q1) (back_ok h.rows ⟨_, _, rfl, handle_ok h hi ⟨_, _, rfl, hK⟩⟩)))

/-- five stores of a request -/
theorem rq_store {S : List Nat} {w0 w : World} {rb : Nat} {r0 r : Rq} (h : ReqAt w rb r0) (hz : ∀ i, w.frozen? ⟨rb, i, none⟩ = false) (ho : Only S w0 w) (hb : w0.heap.size ≤ rb) {k : World → Prop}
    (hK : ∀ w', Only S w0 w' → Only [rb] w w' → ReqAt w' rb r → k w') :
    St ⟨rb, 0, none⟩ (.int .u64 r.ticket) w fun w => St ⟨rb, 1, none⟩ (.int .i64 r.tier) w fun w => St ⟨rb, 2, none⟩ (.int .i64 r.cohort) w fun w => St ⟨rb, 3, none⟩ (.int .i64 r.deadline) w fun w => St ⟨rb, 4, none⟩ (.int .i64 r.arrived) w k := by
  have n (i j : Nat) (v : Value) (w : World) (h : i ≠ j) : (w.setCell ⟨rb, i, none⟩ v).cell? ⟨rb, j, none⟩ = w.cell? ⟨rb, j, none⟩ := cell_set_ne (.inr (Ne.symm h))
  refine St_at h.c0 (hz _) ?_
  have d1 := (n 0 1 (.int .u64 r.ticket) w (by omega)).trans h.c1
  refine St_at d1 ((frozen_set _ _ _ _).trans (hz _)) ?_
  have d2 := (n 1 2 (.int .i64 r.tier) _ (by omega)).trans ((n 0 2 (.int .u64 r.ticket) w (by omega)).trans h.c2)
  refine St_at d2 ((frozen_set _ _ _ _).trans ((frozen_set _ _ _ _).trans (hz _))) ?_
  have d3 := (n 2 3 (.int .i64 r.cohort) _ (by omega)).trans ((n 1 3 (.int .i64 r.tier) _ (by omega)).trans ((n 0 3 (.int .u64 r.ticket) w (by omega)).trans h.c3))
  refine St_at d3 ((frozen_set _ _ _ _).trans ((frozen_set _ _ _ _).trans ((frozen_set _ _ _ _).trans (hz _)))) ?_
  have d4 := (n 3 4 (.int .i64 r.deadline) _ (by omega)).trans ((n 2 4 (.int .i64 r.cohort) _ (by omega)).trans ((n 1 4 (.int .i64 r.tier) _ (by omega)).trans ((n 0 4 (.int .u64 r.ticket) w (by omega)).trans h.c4)))
  refine St_at d4 ((frozen_set _ _ _ _).trans ((frozen_set _ _ _ _).trans ((frozen_set _ _ _ _).trans ((frozen_set _ _ _ _).trans (hz _))))) (hK _ ?_ ?_ ?_)
  · exact ((((ho.st (.inr hb) h.c0).st (.inr hb) d1).st (.inr hb) d2).st (.inr hb) d3).st (.inr hb) d4
  · exact (((((Only.refl [rb] w).st (.inl (by simp)) h.c0).st (.inl (by simp)) d1).st (.inl (by simp)) d2).st (.inl (by simp)) d3).st (.inl (by simp)) d4
  · refine ⟨?_, ?_, ?_, ?_, ?_⟩
    · rw [n _ _ _ _ (by omega), n _ _ _ _ (by omega), n _ _ _ _ (by omega), n _ _ _ _ (by omega)]; exact cell_set_eq h.c0
    · rw [n _ _ _ _ (by omega), n _ _ _ _ (by omega), n _ _ _ _ (by omega)]; exact cell_set_eq d1
    · rw [n _ _ _ _ (by omega), n _ _ _ _ (by omega)]; exact cell_set_eq d2
    · rw [n _ _ _ _ (by omega)]; exact cell_set_eq d3
    · exact cell_set_eq d4

theorem queueGet_ok (h : QueueAt w d q) {x : Int} (h0 : 0 ≤ x) (h1 : x < 18446744073709551616) (ht : ∀ i, 0 ≤ q.slab.turns i ∧ q.slab.turns i ≤ 4294967295)
    (hK : ∀ w', Only [] w w' → K (.tuple #[(q.slab.get x).1.v, .int .i64 (q.slab.get x).2]) w') : CallsV P 136 #[.pointer (some ⟨d.qb, 0, none⟩), .int .u64 x] w K := by
  refine m_tierq_Queue_Get_ok ?_
  unfold m_tierq_Queue_Get
  refine al_intro ?_
  obtain ⟨W, hW⟩ : ∃ W, w.alloc (.cells #[(.int .u64 0), (.int .i64 0), (.int .i64 0), (.int .i64 0), (.int .i64 0)] 130) = W := ⟨_, rfl⟩
  have o0 : Only [] w W := by rw [← hW]; exact Only.alloc _ _
  have a0 : ReqAt W w.heap.size ⟨0, 0, 0, 0, 0⟩ := by rw [← hW]; constructor <;> simp [cell_new]
  have z0 : ∀ i, W.frozen? ⟨w.heap.size, i, none⟩ = false := by intro i; rw [← hW]; simp [frozen_new]
  rw [hW]
  have h' := h.only o0 (by simp)
  refine if_no (by simp) (nn_some (ld_ptr h'.q0 (get_ok h'.slab h0 h1 ht fun w2 o2 => ⟨_, _, _, _, _, _, rfl, ?_⟩)))
  simp only [addr_add, Nat.add_zero, Nat.zero_add]
  have lt0 : w.heap.size < W.heap.size := cell_lt a0.c0
  have a2 : ReqAt w2 w.heap.size ⟨0, 0, 0, 0, 0⟩ := ⟨o2.cell a0.c0 (by simp), o2.cell a0.c1 (by simp), o2.cell a0.c2 (by simp), o2.cell a0.c3 (by simp), o2.cell a0.c4 (by simp)⟩
  refine rq_store (r := (q.slab.get x).1) a2 (fun i => (o2.frozen lt0 (by simp)).trans (z0 i)) (o0.trans o2) (Nat.le_refl _) fun w4 o4 _ h4 => ?_
  exact ld_int h4.c0 (ld_int h4.c1 (ld_int h4.c2 (ld_int h4.c3 (ld_int h4.c4 (hK w4 o4)))))

end Go.M

/- The queue's plain law. -/
set_option linter.all false
set_option linter.constructorNameAsVariable false
namespace Go.M
open Go Go.Eng

def InH (V : Nat → En) (n : Nat) (e : En) : Prop := ∃ k, k < n ∧ V k = e

theorem inH_swap {V : Nat → En} {n a b : Nat} (ha : a < n) (hb : b < n) (e : En) : InH (sw V a b) n e ↔ InH V n e := by
  constructor
  · rintro ⟨k, hk, rfl⟩
    unfold sw; split
    · exact ⟨b, hb, rfl⟩
    · split
      · exact ⟨a, ha, rfl⟩
      · exact ⟨k, hk, rfl⟩
  · rintro ⟨k, hk, rfl⟩
    by_cases h1 : k = a
    · subst h1; exact ⟨b, hb, sw_b _ _ _⟩
    · by_cases h2 : k = b
      · subst h2; exact ⟨a, ha, sw_a _ _ _⟩
      · exact ⟨k, hk, sw_o h1 h2⟩
theorem InH.ext {V V' : Nat → En} {n : Nat} (he : ∀ j, j < n → V' j = V j) (e : En) : InH V' n e ↔ InH V n e := by
  constructor
  · rintro ⟨k, hk, rfl⟩; exact ⟨k, hk, (he k hk).symm⟩
  · rintro ⟨k, hk, rfl⟩; exact ⟨k, hk, he k hk⟩

def allR {α : Type} (R : Nat → List α) (nr : Nat) : List α := (List.range nr).flatMap R

theorem allR_succ {α : Type} (R : Nat → List α) (nr : Nat) : allR R (nr + 1) = allR R nr ++ R nr := by
  unfold allR; rw [List.range_succ, List.flatMap_append]; simp
theorem mem_allR {α : Type} {R : Nat → List α} {nr : Nat} {x : α} : x ∈ allR R nr ↔ ∃ t, t < nr ∧ x ∈ R t := by
  unfold allR; simp
theorem allR_ext {α : Type} {R R' : Nat → List α} {nr : Nat} (h : ∀ t, t < nr → R t = R' t) : allR R nr = allR R' nr := by
  induction nr with
  | zero => rfl
  | succ n ih => rw [allR_succ, allR_succ, ih fun t ht => h t (by omega), h n (by omega)]
theorem allR_upd {α : Type} {R : Nat → List α} {nr t : Nat} (ht : t < nr) (c : List α) : (allR (upd R t c) nr).length + (R t).length = (allR R nr).length + c.length := by
  induction nr with
  | zero => omega
  | succ n ih =>
    rw [allR_succ, allR_succ, List.length_append, List.length_append]
    by_cases e : t = n
    · subst e
      rw [upd_same, allR_ext (R' := R) fun s hs => upd_other (by omega)]
      omega
    · rw [upd_other (Ne.symm e)]
      have := ih (by omega)
      omega
theorem allR_len_map {α β : Type} {R : Nat → List α} {S : Nat → List β} {nr : Nat} (h : ∀ t, t < nr → (R t).length = (S t).length) : (allR R nr).length = (allR S nr).length := by
  induction nr with
  | zero => rfl
  | succ n ih => rw [allR_succ, allR_succ, List.length_append, List.length_append, ih fun t ht => h t (by omega), h n (by omega)]

structure QOk (q : QueueM) (R : Nat → List Nat) (T : Int) : Prop where
  slab : ∃ fl, SlabOk q.slab fl T
  rows : RowsOk q.rows R
  heap : HeapOk (el q.l) q.l.length
  hinv : HInv (el q.l) q.l.length q.n q.at_
  tr : ∀ i, i < q.n → (q.slab.taken i = true ↔ q.rows.row i ≠ -1)
  ta : ∀ i, i < q.n → (q.slab.taken i = true ↔ ∃ e, InH (el q.l) q.l.length e ∧ e.i = i)
  ent : ∀ e, InH (el q.l) q.l.length e → e.key = q.slab.deadline e.i ∧ e.tie = q.slab.ticket e.i
  hnd : ∀ i, i < q.n → q.slab.taken i = true → q.handles i = q.slab.turns i * 4294967296 + i ∧ 1 ≤ q.slab.turns i
  tier : ∀ t, t < q.rows.nr → ∀ i ∈ R t, q.slab.tier i = t
  n1 : q.n ≤ 1024
  nr1 : q.rows.nr ≤ 8
  tot : q.slab.len = ((allR R q.rows.nr).length : Nat)
  hlen : q.l.length ≤ 1024

theorem hlen_le {V : Nat → En} {n N : Nat} {A : Nat → Int} (h : HInv V n N A) : n ≤ N := by
  have h1 : ((List.range n).map fun k => (V k).i).Nodup := by
    rw [List.nodup_iff_pairwise_ne] at *
    rw [List.pairwise_map]
    refine List.Pairwise.imp_of_mem (R := fun a b => a ≠ b) ?_ List.nodup_range
    intro a b ha hb hne e
    exact hne (h.inj (List.mem_range.1 ha) (List.mem_range.1 hb) e)
  have h2 := nodup_le h1 (m := N) fun i hi => by
    obtain ⟨k, hk, rfl⟩ := List.mem_map.1 hi
    exact h.lt k (List.mem_range.1 hk)
  simpa using h2

variable {q : QueueM} {R : Nat → List Nat} {T : Int}

/-- a member of a row is taken -/
theorem QOk.mem (h : QOk q R T) (hd : q.rows.nk = q.n) {t : Nat} (ht : t < q.rows.nr) {i : Nat} (hi : i ∈ R t) : i < q.n ∧ q.slab.taken i = true ∧ q.rows.row i = t := by
  obtain ⟨h1, h2⟩ := h.rows.row t ht i hi
  have h3 : i < q.n := by omega
  exact ⟨h3, (h.tr i h3).2 (by omega), h2⟩
theorem QOk.find (h : QOk q R T) (hd : q.rows.nk = q.n) {i : Nat} (hi : i < q.n) (ht : q.slab.taken i = true) : ∃ t, t < q.rows.nr ∧ i ∈ R t := by
  have h1 := (h.tr i hi).1 ht
  rcases h.rows.out i (by omega) with h2 | ⟨t, h2, _, h4⟩
  · exact absurd h2 h1
  · exact ⟨t, h2, h4⟩

/-- what the heap's Put leaves -/
structure PutH (l l' : List En) (N : Nat) (A A' : Nat → Int) (e : En) : Prop where
  len : l'.length = l.length + 1
  ok : HeapOk (el l') l'.length
  inv : HInv (el l') l'.length N A'
  mem : ∀ x, InH (el l') l'.length x ↔ InH (el l) l.length x ∨ x = e

/-- what the heap's Remove leaves -/
structure RmH (l l' : List En) (N : Nat) (A A' : Nat → Int) (i : Nat) : Prop where
  len : l'.length + 1 = l.length
  ok : HeapOk (el l') l'.length
  inv : HInv (el l') l'.length N A'
  mem : ∀ x, InH (el l') l'.length x ↔ InH (el l) l.length x ∧ x.i ≠ i

theorem take_fields (s : SlabM) (i : Nat) (r : Rq) : (s.take i r).n = s.n ∧ (s.take i r).ticket = upd s.ticket i r.ticket ∧ (s.take i r).tier = upd s.tier i r.tier ∧ (s.take i r).cohort = upd s.cohort i r.cohort ∧ (s.take i r).deadline = upd s.deadline i r.deadline ∧
    (s.take i r).arrived = upd s.arrived i r.arrived ∧ (s.take i r).turns = upd s.turns i (s.turns i + 1) ∧ (s.take i r).taken = upd s.taken i true ∧ (s.take i r).len = s.len + 1 := by
  unfold SlabM.take SlabM.put
  split <;> exact ⟨rfl, rfl, rfl, rfl, rfl, rfl, rfl, rfl, rfl⟩

theorem push_fields (s : RowsM) (t i : Nat) : (s.push t i).nr = s.nr ∧ (s.push t i).nk = s.nk ∧ (s.push t i).row = upd s.row i (t : Int) := by
  unfold RowsM.push
  split <;> exact ⟨rfl, rfl, rfl⟩

theorem QOk.put (h : QOk q R T) (hsn : q.slab.n = q.n) (hd : q.rows.nk = q.n) (hfull : q.slab.len < q.n) {r : Rq} {t : Nat} (ht : t < q.rows.nr) (hrt : r.tier = t) :
    ∃ i : Nat, q.slab.free? = (i : Int) ∧ i < q.n ∧ q.slab.taken i = false ∧ q.rows.row i = -1 ∧ q.at_ i = -1 ∧ 0 ≤ q.slab.turns i ∧ q.slab.turns i ≤ T ∧
      ∀ l' at', PutH q.l l' q.n q.at_ at' ⟨r.deadline, r.ticket, i⟩ →
        QOk { q with slab := q.slab.take i r, rows := q.rows.push t i, l := l', at_ := at', handles := upd q.handles i ((q.slab.turns i + 1) * 4294967296 + i) } (upd R t (R t ++ [i])) (T + 1) := by
  obtain ⟨fl, hs⟩ := h.slab
  obtain ⟨i, fl', h1, h2, h3, h4⟩ := hs.take (by omega) r
  have hi : i < q.n := by omega
  have hrow : q.rows.row i = -1 := by
    have := h.tr i hi
    rw [h3] at this
    simpa using this
  have hno : ¬ ∃ e, InH (el q.l) q.l.length e ∧ e.i = i := by
    have := h.ta i hi
    rw [h3] at this
    simpa using this
  have hat : q.at_ i = -1 := by
    refine Classical.byContradiction fun hne => hno ?_
    obtain ⟨k, g1, g2, g3⟩ := h.hinv.there i hi hne
    exact ⟨el q.l k, ⟨k, g1, rfl⟩, g3⟩
  refine ⟨i, h1, hi, h3, hrow, hat, (hs.turns i).1, (hs.turns i).2, fun l' at' hp => ?_⟩
  obtain ⟨f1, f2, f3, f4, f5, f6, f7, f8, f9⟩ := take_fields q.slab i r
  obtain ⟨p1, p2, p3⟩ := push_fields q.rows t i
  have hl' := hlen_le hp.inv
  refine { slab := ⟨fl', h4⟩, rows := h.rows.push ht (by omega) hrow, heap := hp.ok, hinv := hp.inv, tr := ?_, ta := ?_, ent := ?_, hnd := ?_, tier := ?_, n1 := h.n1, nr1 := by show (q.rows.push t i).nr ≤ 8; rw [p1]; exact h.nr1, tot := ?_, hlen := Nat.le_trans hl' h.n1 }
  · intro j hj
    show (q.slab.take i r).taken j = true ↔ (q.rows.push t i).row j ≠ -1
    rw [f8, p3]
    by_cases e : j = i
    · subst e; simp
    · rw [upd_other e, upd_other e]; exact h.tr j hj
  · intro j hj
    show (q.slab.take i r).taken j = true ↔ ∃ e, InH (el l') l'.length e ∧ e.i = j
    rw [f8]
    by_cases e : j = i
    · subst e; simp only [upd_same, true_iff]; exact ⟨_, (hp.mem _).2 (.inr rfl), rfl⟩
    · rw [upd_other e, h.ta j hj]
      constructor
      · rintro ⟨x, g1, g2⟩; exact ⟨x, (hp.mem x).2 (.inl g1), g2⟩
      · rintro ⟨x, g1, g2⟩
        rcases (hp.mem x).1 g1 with g3 | g3
        · exact ⟨x, g3, g2⟩
        · subst g3; exact absurd g2.symm e
  · intro e he
    show e.key = (q.slab.take i r).deadline e.i ∧ e.tie = (q.slab.take i r).ticket e.i
    rw [f5, f2]
    rcases (hp.mem e).1 he with g | g
    · have hne : e.i ≠ i := fun e2 => hno ⟨e, g, e2⟩
      rw [upd_other hne, upd_other hne]; exact h.ent e g
    · subst g; simp
  · intro j hj hjt
    show upd q.handles i ((q.slab.turns i + 1) * 4294967296 + i) j = (q.slab.take i r).turns j * 4294967296 + j ∧ 1 ≤ (q.slab.take i r).turns j
    have hjt' : (q.slab.take i r).taken j = true := hjt
    rw [f8] at hjt'
    rw [f7]
    by_cases e : j = i
    · subst e; simp only [upd_same]; have := (hs.turns j).1; exact ⟨trivial, by omega⟩
    · rw [upd_other e] at hjt'
      rw [upd_other e, upd_other e]; exact h.hnd j hj hjt'
  · intro t' ht' j hj
    have ht2 : t' < q.rows.nr := by rw [← p1]; exact ht'
    show (q.slab.take i r).tier j = t'
    rw [f3]
    by_cases e : j = i
    · subst e
      rw [upd_same, hrt]
      by_cases e2 : t' = t
      · rw [e2]
      · rw [upd_other e2] at hj
        have := (h.rows.row t' ht2 j hj).2
        omega
    · rw [upd_other e]
      refine h.tier t' ht2 j ?_
      by_cases e2 : t' = t
      · subst e2
        rw [upd_same] at hj
        rcases List.mem_append.1 hj with hj | hj
        · exact hj
        · exact absurd (by simpa using hj) e
      · rw [upd_other e2] at hj; exact hj
  · show (q.slab.take i r).len = ((allR (upd R t (R t ++ [i])) (q.rows.push t i).nr).length : Nat)
    rw [f9, p1, h.tot]
    have := allR_upd (R := R) ht (R t ++ [i])
    simp only [List.length_append, List.length_cons, List.length_nil] at this
    omega

theorem free_fields (s : SlabM) (i : Nat) : (s.free i).n = s.n ∧ (s.free i).ticket = s.ticket ∧ (s.free i).tier = s.tier ∧ (s.free i).cohort = s.cohort ∧ (s.free i).deadline = s.deadline ∧
    (s.free i).arrived = s.arrived ∧ (s.free i).turns = s.turns ∧ (s.free i).taken = upd s.taken i false := ⟨rfl, rfl, rfl, rfl, rfl, rfl, rfl, rfl⟩

theorem remove_fields (s : RowsM) (i : Nat) : (s.remove i).nr = s.nr ∧ (s.remove i).nk = s.nk ∧ (s.remove i).row = upd s.row i (-1) := by
  unfold RowsM.remove
  by_cases h1 : s.prev i = -1 <;> by_cases h2 : s.next i = -1 <;> simp [h1, h2]

/-- the handle of a member names its cell -/
theorem QOk.at (h : QOk q R T) (hsn : q.slab.n = q.n) {i : Nat} (hi : i < q.n) (ht : q.slab.taken i = true) (hT : T ≤ 4294967295) :
    q.slab.at (q.handles i) = some i ∧ 0 ≤ q.handles i ∧ q.handles i < 18446744073709551616 ∧ q.handles i ≠ 0 ∧ q.handles i % 4294967296 = i := by
  obtain ⟨fl, hs⟩ := h.slab
  obtain ⟨h1, h2⟩ := h.hnd i hi ht
  have h3 := (hs.turns i).2
  have h4 := h.n1
  have e1 : q.handles i % 4294967296 = i := by omega
  have e2 : q.handles i / 4294967296 = q.slab.turns i := by omega
  refine ⟨?_, by omega, by omega, by omega, e1⟩
  unfold SlabM.at
  rw [e1, e2]
  simp only [Int.toNat_natCast]
  rw [if_pos ⟨by omega, ht, by first | rfl | trivial⟩]

theorem QOk.take (h : QOk q R T) (hsn : q.slab.n = q.n) (hd : q.rows.nk = q.n) {t : Nat} (ht : t < q.rows.nr) {a b : List Nat} {i : Nat} (hR : R t = a ++ i :: b) {l' : List En} {at' : Nat → Int} (hp : RmH q.l l' q.n q.at_ at' i) :
    QOk { q with slab := q.slab.free i, rows := q.rows.remove i, l := l', at_ := at' } (upd R t (a ++ b)) T := by
  obtain ⟨fl, hs⟩ := h.slab
  obtain ⟨hi, htk, hrow⟩ := h.mem hd ht (i := i) (by rw [hR]; simp)
  have hn1024 := h.n1
  obtain ⟨hfree, hflen⟩ := hs.free (by omega) (by omega) htk
  obtain ⟨hrm, _⟩ := h.rows.remove ht hR
  obtain ⟨p1, p2, p3⟩ := remove_fields q.rows i
  have hl' := hlen_le hp.inv
  have hmem : ∀ t' j, t' < q.rows.nr → j ∈ upd R t (a ++ b) t' → j ∈ R t' := fun t' j ht' hj => by
    by_cases e : t' = t
    · subst e
      rw [upd_same] at hj
      rw [hR]
      rcases List.mem_append.1 hj with hj | hj <;> simp [hj]
    · rw [upd_other e] at hj; exact hj
  refine { slab := ⟨_, hfree⟩, rows := hrm, heap := hp.ok, hinv := hp.inv, tr := ?_, ta := ?_, ent := ?_, hnd := ?_, tier := ?_, n1 := h.n1, nr1 := by show (q.rows.remove i).nr ≤ 8; rw [p1]; exact h.nr1, tot := ?_, hlen := Nat.le_trans hl' h.n1 }
  · intro j hj
    show upd q.slab.taken i false j = true ↔ (q.rows.remove i).row j ≠ -1
    rw [p3]
    by_cases e : j = i
    · subst e; simp
    · rw [upd_other e, upd_other e]; exact h.tr j hj
  · intro j hj
    show upd q.slab.taken i false j = true ↔ ∃ e, InH (el l') l'.length e ∧ e.i = j
    by_cases e : j = i
    · subst e
      simp only [upd_same, Bool.false_eq_true, false_iff]
      rintro ⟨x, g1, g2⟩
      exact ((hp.mem x).1 g1).2 g2
    · rw [upd_other e, h.ta j hj]
      constructor
      · rintro ⟨x, g1, g2⟩; exact ⟨x, (hp.mem x).2 ⟨g1, by omega⟩, g2⟩
      · rintro ⟨x, g1, g2⟩; exact ⟨x, ((hp.mem x).1 g1).1, g2⟩
  · intro e he
    exact h.ent e ((hp.mem e).1 he).1
  · intro j hj hjt
    have hjt' : upd q.slab.taken i false j = true := hjt
    by_cases e : j = i
    · subst e; rw [upd_same] at hjt'; cases hjt'
    · rw [upd_other e] at hjt'; exact h.hnd j hj hjt'
  · intro t' ht' j hj
    have ht2 : t' < q.rows.nr := by rw [← p1]; exact ht'
    exact h.tier t' ht2 j (hmem t' j ht2 hj)
  · show (q.slab.free i).len = ((allR (upd R t (a ++ b)) (q.rows.remove i).nr).length : Nat)
    rw [hflen, p1, h.tot]
    have := allR_upd (R := R) ht (a ++ b)
    rw [hR] at this
    simp only [List.length_append, List.length_cons] at this
    omega

theorem qOk_new {n nr : Nat} {q : QueueM} (h1 : n ≤ 1024) (h2 : nr ≤ 8) (hn : q.n = n) (hs : q.slab = SlabM.new n) (hr : q.rows.Empty nr n) (hl : q.l = []) (hat : ∀ i, i < n → q.at_ i = -1) : QOk q (fun _ => []) 0 := by
  refine { slab := ⟨[], by rw [hs]; exact slabOk_new n⟩, rows := rowsOk_new hr, heap := ?_, hinv := ?_, tr := ?_, ta := ?_, ent := ?_, hnd := ?_, tier := ?_, n1 := by omega, nr1 := by rw [hr.enr]; omega, tot := ?_, hlen := by rw [hl]; simp }
  · rw [hl]; intro j h0 hj; cases hj
  · rw [hl]
    exact ⟨fun k hk => (nomatch hk), fun k hk => (nomatch hk), fun i hi ha => absurd (hat i (by omega)) ha⟩
  · intro i hi
    rw [hs, hr.erow i (by omega)]
    simp [SlabM.new]
  · intro i hi
    rw [hs, hl]
    simp [SlabM.new, InH]
  · rintro e ⟨k, hk, _⟩; rw [hl] at hk; cases hk
  · intro i hi ht; rw [hs] at ht; cases ht
  · intro t _ i hi; cases hi
  · rw [hs]
    have : allR (fun _ : Nat => ([] : List Nat)) q.rows.nr = [] := by unfold allR; simp
    rw [this]; rfl

end Go.M

/- What the functions of the heap do: entries laid, upwards, downwards. -/
set_option linter.all false
set_option linter.constructorNameAsVariable false
set_option maxRecDepth 100000
namespace Go.M
open Go Go.Eng Go.RowKit

variable {w : World} {K : Value → World → Prop} {hb ab n : Nat} {ob : Option Nat} {l : List En} {at_ : Nat → Int}

/-- rounds that end -/
theorem loop_dec {σ : Type} {B : List Value → World → (List Value → World → Prop) → (Nat × List Value → World → Prop) → Prop} {out : Nat × List Value → World → Prop} (m : σ → Nat) (mk : σ → List Value) (J : σ → World → Prop)
    (step : ∀ s w next, J s w → (∀ s' w', m s' < m s → J s' w' → next (mk s') w') → B (mk s) w next out) {s : σ} {w : World} (h : J s w) : LoopP B (mk s) w out := by
  refine ⟨m s + 1, ?_⟩
  have key : ∀ N s w, m s < N → J s w → rounds B N (mk s) w out := by
    intro N
    induction N with
    | zero => intro s w hm _; omega
    | succ N ih =>
      intro s w hm hj
      exact step s w _ hj fun s' w' hlt hj' => ih s' w' (by omega) hj'
  exact key _ s w (by omega) h

theorem flat_get {α : Type} {enc : α → List Value} {s : Nat} (hs : ∀ x, (enc x).length = s) : ∀ (l : List α) (j r : Nat), r < s → (l.flatMap enc)[j * s + r]? = (l[j]?).bind fun x => (enc x)[r]?
  | [], j, r, _ => by simp
  | x :: l, 0, r, hr => by simp [List.getElem?_append_left (show r < (enc x).length by rw [hs]; exact hr)]
  | x :: l, j + 1, r, hr => by
    have e : (j + 1) * s + r = (enc x).length + (j * s + r) := by rw [hs, Nat.succ_mul]; omega
    rw [List.flatMap_cons, e, List.getElem?_append_right (by omega)]
    simp only [Nat.add_sub_cancel_left, List.getElem?_cons_succ]
    exact flat_get hs l j r hr

theorem flat_len {α : Type} {enc : α → List Value} {s : Nat} (hs : ∀ x, (enc x).length = s) (l : List α) : (l.flatMap enc).length = l.length * s := by
  induction l with
  | nil => simp
  | cons x l ih => rw [List.flatMap_cons, List.length_append, ih, hs, List.length_cons, Nat.succ_mul]; omega

theorem En.cells_len (e : En) : e.cells.length = 3 := rfl

theorem HeapAt.get (h : HeapAt w hb ab ob n l at_) {k : Nat} (hk : k < l.length) : ∃ g c, ob = some g ∧ w.cell? ⟨hb, 0, none⟩ = some (.slice (some ⟨g, 0, none⟩) l.length c) ∧ g ≠ hb ∧ g ≠ ab ∧ g < w.heap.size ∧ (∀ i, w.frozen? ⟨g, i, none⟩ = false) ∧
    (∀ j, j < l.length → w.cell? ⟨g, j * 3, none⟩ = some (.int .i64 (el l j).key) ∧ w.cell? ⟨g, j * 3 + 1, none⟩ = some (.int .u64 (el l j).tie) ∧ w.cell? ⟨g, j * 3 + 2, none⟩ = some (.int .i64 ((el l j).i : Int))) := by
  obtain ⟨sv, g1, g2, g3⟩ := h.row
  rcases g2.2 with ⟨_, h0⟩ | ⟨g, cap, cur, rfl, _, hg, _⟩
  · omega
  · have hob : ob = some g := by rw [← g3]; rfl
    refine ⟨g, cap, hob, g1, fun e => h.nb_hb (by rw [hob, e]), fun e => h.nb_ab (by rw [hob, e]), (Array.getElem?_eq_some_iff.1 hg).1, fun i => g2.frozenAt i, fun j hj => ?_⟩
    have key : ∀ r, r < 3 → w.cell? ⟨g, j * 3 + r, none⟩ = ((el l j).cells)[r]? := fun r hr => by
      rw [g2.cellAt (j * 3 + r) (by have := Nat.mul_le_mul_right 3 (show j + 1 ≤ l.length from hj); omega), flat_get En.cells_len l j r hr, el_get hj]
      rfl
    exact ⟨key 0 (by omega), key 1 (by omega), key 2 (by omega)⟩

theorem flat_set {l : List En} {k : Nat} (hk : k < l.length) (e : En) :
    (l.set k e).flatMap En.cells = (((l.flatMap En.cells).set (k * 3) (.int .i64 e.key)).set (k * 3 + 1) (.int .u64 e.tie)).set (k * 3 + 2) (.int .i64 (e.i : Int)) := by
  have hl := flat_len En.cells_len l
  have hl' := flat_len En.cells_len (l.set k e)
  have hk3 : k * 3 + 3 ≤ l.length * 3 := by omega
  apply List.ext_getElem?
  intro i
  have hi : i = i / 3 * 3 + i % 3 := by omega
  have hr : i % 3 < 3 := Nat.mod_lt _ (by omega)
  rw [hi, flat_get En.cells_len _ _ _ hr]
  have hu := flat_get En.cells_len l (i / 3) (i % 3) hr
  generalize i / 3 = j at *
  generalize i % 3 = r at *
  simp only [List.getElem?_set, List.length_set, hl]
  by_cases hj : k = j
  · subst hj
    simp only [if_true, hk]
    have : r = 0 ∨ r = 1 ∨ r = 2 := by omega
    rcases this with rfl | rfl | rfl
    · simp [En.cells]; omega
    · simp [En.cells]; omega
    · simp [En.cells]; omega
  · rw [if_neg hj, if_neg (by omega), if_neg (by omega), if_neg (by omega)]
    exact hu.symm

/-- three stores of an entry -/
theorem HeapAt.setl {ob' : Nat} (h : HeapAt w hb ab (some ob') n l at_) {k : Nat} (hk : k < l.length) (e : En) :
    HeapAt (((w.setCell ⟨ob', k * 3, none⟩ (.int .i64 e.key)).setCell ⟨ob', k * 3 + 1, none⟩ (.int .u64 e.tie)).setCell ⟨ob', k * 3 + 2, none⟩ (.int .i64 (e.i : Int))) hb ab (some ob') n (l.set k e) at_ := by
  obtain ⟨sv, g1, g2, g3⟩ := h.row
  have n1 : ob' ≠ hb := fun e => h.nb_hb (by rw [e])
  have n2 : ob' ≠ ab := fun e => h.nb_ab (by rw [e])
  rcases g2.2 with ⟨rfl, h0⟩ | ⟨g, cap, cur, rfl, _, hg, _⟩
  · simp [Value.ownBlock] at g3
  · have hob : g = ob' := by simpa [Value.ownBlock] using g3
    subst hob
    have r1 := (g2.stored (k * 3) (.int .i64 e.key)).1
    have r2 := (r1.stored (k * 3 + 1) (.int .u64 e.tie)).1
    have r3 := (r2.stored (k * 3 + 2) (.int .i64 (e.i : Int))).1
    refine ⟨h.ne, by simp only [size_setCell]; exact h.lt_hb, by simp only [size_setCell]; exact h.lt_ab, fun i => by simp only [frozen_set]; exact h.z_hb i, fun i => by simp only [frozen_set]; exact h.z_ab i, ⟨.slice (some ⟨g, 0, none⟩) l.length cap, ?_, ?_, rfl⟩, ?_, fun i hi => ?_, h.nb_hb, h.nb_ab⟩
    · rw [cell_set_ne (.inl (Ne.symm n1)), cell_set_ne (.inl (Ne.symm n1)), cell_set_ne (.inl (Ne.symm n1))]; exact g1
    · rw [flat_set hk, List.length_set]; exact r3
    · rw [cell_set_ne (.inl (Ne.symm n1)), cell_set_ne (.inl (Ne.symm n1)), cell_set_ne (.inl (Ne.symm n1))]; exact h.h_at
    · rw [cell_set_ne (.inl (Ne.symm n2)), cell_set_ne (.inl (Ne.symm n2)), cell_set_ne (.inl (Ne.symm n2))]; exact h.c_at i hi

theorem HeapAt.seta (h : HeapAt w hb ab ob n l at_) {i : Nat} (hi : i < n) (v : Int) : HeapAt (w.setCell ⟨ab, i, none⟩ (.int .i64 v)) hb ab ob n l (upd at_ i v) := by
  have on : Only [ab] w (w.setCell ⟨ab, i, none⟩ (.int .i64 v)) := (Only.refl [ab] w).st (.inl (by simp)) (h.c_at i hi)
  obtain ⟨sv, g1, g2, g3⟩ := h.row
  refine ⟨h.ne, by rw [size_setCell]; exact h.lt_hb, by rw [size_setCell]; exact h.lt_ab, fun j => (frozen_set _ _ _ _).trans (h.z_hb j), fun j => (frozen_set _ _ _ _).trans (h.z_ab j),
    ⟨sv, (cell_set_ne (.inl h.ne)).trans g1, own_kept g2 on (fun b hb' => ?_), g3⟩, (cell_set_ne (.inl h.ne)).trans h.h_at, fun j hj => ?_, h.nb_hb, h.nb_ab⟩
  · have : ob = some b := by rw [← g3]; exact hb'
    intro hc
    have : b = ab := by simpa using hc
    subst this
    exact h.nb_ab ‹_›
  · by_cases e : j = i
    · subst e; rw [cell_set_eq (h.c_at j hj)]; simp
    · exact (cell_set_ne (.inr e)).trans ((h.c_at j hj).trans (by simp [upd_other e]))

/-- an entry in a block of its own -/
structure EnAt (w : World) (eb : Nat) (e : En) : Prop where
  c0 : w.cell? ⟨eb, 0, none⟩ = some (.int .i64 e.key)
  c1 : w.cell? ⟨eb, 1, none⟩ = some (.int .u64 e.tie)
  c2 : w.cell? ⟨eb, 2, none⟩ = some (.int .i64 (e.i : Int))
  z : ∀ i, w.frozen? ⟨eb, i, none⟩ = false

theorem EnAt.only {S : List Nat} {w' : World} {eb : Nat} {e : En} (h : EnAt w eb e) (ho : Only S w w') (hs : eb ∉ S) : EnAt w' eb e :=
  ⟨ho.cell h.c0 hs, ho.cell h.c1 hs, ho.cell h.c2 hs, fun i => (ho.frozen (cell_lt h.c0) hs).trans (h.z i)⟩

theorem en_new (w : World) (e : En) : EnAt (w.alloc (.cells #[.int .i64 e.key, .int .u64 e.tie, .int .i64 (e.i : Int)] 377)) w.heap.size e := by
  constructor <;> (try intro i) <;> simp [cell_new, frozen_new]

/-- a new entry, stored -/
theorem en_store {S : List Nat} {w0 : World} {eb : Nat} {e0 e : En} (h : EnAt w eb e0) (ho : Only S w0 w) (hb : w0.heap.size ≤ eb) {k : World → Prop}
    (hK : ∀ w', Only S w0 w' → Only [eb] w w' → EnAt w' eb e → k w') :
    St ⟨eb, 0, none⟩ (.int .i64 e.key) w fun w => St ⟨eb, 1, none⟩ (.int .u64 e.tie) w fun w => St ⟨eb, 2, none⟩ (.int .i64 (e.i : Int)) w k := by
  have nn (i j : Nat) (v : Value) (w : World) (h : i ≠ j) : (w.setCell ⟨eb, i, none⟩ v).cell? ⟨eb, j, none⟩ = w.cell? ⟨eb, j, none⟩ := cell_set_ne (.inr (Ne.symm h))
  refine St_at h.c0 (h.z _) ?_
  have d1 := (nn 0 1 (.int .i64 e.key) w (by omega)).trans h.c1
  refine St_at d1 ((frozen_set _ _ _ _).trans (h.z _)) ?_
  have d2 := (nn 1 2 (.int .u64 e.tie) _ (by omega)).trans ((nn 0 2 (.int .i64 e.key) w (by omega)).trans h.c2)
  refine St_at d2 ((frozen_set _ _ _ _).trans ((frozen_set _ _ _ _).trans (h.z _))) (hK _ ?_ ?_ ?_)
  · exact ((ho.st (.inr hb) h.c0).st (.inr hb) d1).st (.inr hb) d2
  · exact (((Only.refl [eb] w).st (.inl (by simp)) h.c0).st (.inl (by simp)) d1).st (.inl (by simp)) d2
  · refine ⟨?_, ?_, ?_, fun i => by simp only [frozen_set]; exact h.z i⟩
    · rw [nn _ _ _ _ (by omega), nn _ _ _ _ (by omega)]; exact cell_set_eq h.c0
    · rw [nn _ _ _ _ (by omega)]; exact cell_set_eq d1
    · exact cell_set_eq d2

theorem order_q {w : World} (a b : En) : QCall P 237 #[.agg #[.int .i64 a.key, .int .u64 a.tie, .int .i64 (a.i : Int)], .agg #[.int .i64 b.key, .int .u64 b.tie, .int .i64 (b.i : Int)]] w (.int .i64 (ordI a b)) :=
  qOf fun w1 K h => order_ok h

theorem lay_ok (h : HeapAt w hb ab ob n l at_) {k : Nat} (hk : k < l.length) {e : En} (hi : e.i < n)
    (hK : ∀ w', Only (ab :: ob.toList) w w' → HeapAt w' hb ab ob n (l.set k e) (upd at_ e.i k) → K (.tuple #[]) w') :
    CallsV P 247 #[.pointer (some ⟨hb, 0, none⟩), .int .i64 (k : Int), .agg #[.int .i64 e.key, .int .u64 e.tie, .int .i64 (e.i : Int)]] w K := by
  refine m_heap_Heap_lay_ok ?_
  unfold m_heap_Heap_lay
  refine al_intro (nn_some ?_)
  obtain ⟨W, hW⟩ : ∃ W, (w.alloc (.cells #[.int .i64 e.key, .int .u64 e.tie, .int .i64 (e.i : Int)] 377)).drew = W := ⟨_, rfl⟩
  have o0 : Only [] w W := by rw [← hW]; exact (Only.alloc _ _).trans (Only.drew _)
  have e0 : EnAt W w.heap.size e := by rw [← hW]; exact (en_new w e).only (Only.drew (S := []) _) (by simp)
  rw [hW]
  have h0 := h.only o0 (by simp) (by simp) (by simp)
  obtain ⟨g, c, rfl, g1, g2, g3, g4, g5, g6⟩ := h0.get hk
  obtain ⟨f1, f2, f3⟩ := g6 k hk
  simp only [addr_add, Nat.add_zero, Nat.zero_add]
  refine ld_slice g1 (ld_int e0.c0 (ld_int e0.c1 (ld_int e0.c2 (ix_nat hk ?_))))
  simp only [addr_add, Nat.add_zero, Nat.zero_add, Int.toNat_natCast]
  have hew : w.heap.size ≠ g := fun hc => by
    obtain ⟨sv, q1, q2, q3⟩ := h.row
    have := (q2.lt g q3).2
    omega
  have o1 := (o0.mono (T := ab :: [g]) (by simp)).st (v := .int .i64 e.key) (.inl (by simp)) f1
  refine St_at f1 (g5 _) ?_
  have f2' := (cell_set_ne (v := .int .i64 e.key) (w := W) (b := g) (o := k * 3) (.inr (by omega : k * 3 + 1 ≠ k * 3))).trans f2
  have o2 := o1.st (v := .int .u64 e.tie) (.inl (by simp)) f2'
  refine St_at f2' ((frozen_set _ _ _ _).trans (g5 _)) ?_
  have f3' := (cell_set_ne (v := .int .u64 e.tie) (w := W.setCell ⟨g, k * 3, none⟩ (.int .i64 e.key)) (b := g) (o := k * 3 + 1) (.inr (by omega : k * 3 + 2 ≠ k * 3 + 1))).trans ((cell_set_ne (v := .int .i64 e.key) (w := W) (b := g) (o := k * 3) (.inr (by omega : k * 3 + 2 ≠ k * 3))).trans f3)
  have o3 := o2.st (v := .int .i64 (e.i : Int)) (.inl (by simp)) f3'
  refine St_at f3' ((frozen_set _ _ _ _).trans ((frozen_set _ _ _ _).trans (g5 _))) (nn_some ?_)
  have h3 := h0.setl hk e
  have eo : Only [g] W _ := (((Only.refl [g] W).st (v := .int .i64 e.key) (.inl (by simp)) f1).st (v := .int .u64 e.tie) (.inl (by simp)) f2').st (v := .int .i64 (e.i : Int)) (.inl (by simp)) f3'
  have e3 := (e0.only eo (by simpa using hew)).only (Only.drew (S := []) _) (by simp)
  have h4 := h3.only (Only.drew (S := []) _) (by simp) (by simp) (by simp)
  have o4 := o3.trans (Only.drew _)
  simp only [addr_add, Nat.add_zero, Nat.zero_add]
  refine ld_slice h4.h_at (ld_int e3.c2 (ix_nat hi ?_))
  simp only [addr_add, Nat.add_zero, Nat.zero_add, Int.toNat_natCast, Nat.mul_one]
  exact St_at (h4.c_at e.i hi) (h4.z_ab _) (hK _ (o4.st (.inl (by simp)) (h4.c_at e.i hi)) (h4.seta hi k))

end Go.M

/- The heap, upwards and downwards. -/
set_option linter.all false
set_option linter.constructorNameAsVariable false
set_option maxRecDepth 100000
namespace Go.M
open Go Go.Eng Go.RowKit

variable {w : World} {K : Value → World → Prop} {hb ab n : Nat} {ob : Option Nat} {l : List En} {at_ : Nat → Int}

theorem HInv.here' {V : Nat → En} {N m : Nat} {A : Nat → Int} (h : HInv V m N A) {k : Nat} (hk : k < m) : A (V k).i = k := h.here k hk

/-- what is known in a loop that moves an entry -/
structure Moving (w0 : World) (hb ab n eb : Nat) (ob : Option Nat) (N : Nat) (e : En) (E : En → Prop) (w : World) (k : Nat) (l : List En) (at_ : Nat → Int) : Prop where
  at' : HeapAt w hb ab ob n l at_
  ent : EnAt w eb e
  len : l.length = N
  lt : k < N
  inv : HInv (upd (el l) k e) N n (upd at_ e.i k)
  mem : ∀ x, InH (upd (el l) k e) N x ↔ E x
  only : Only (ab :: ob.toList) w0 w
  new : w0.heap.size ≤ eb
  hbl : hb < w0.heap.size
  abl : ab < w0.heap.size
  obl : ∀ g, ob = some g → g < w0.heap.size

theorem wrap_par {k : Nat} (h0 : 0 < k) (h : k ≤ 1000000) : IntKind.wrap .i64 (Int.tdiv (IntKind.wrap .i64 ((k : Int) - 1)) 2) = ((par k : Nat) : Int) := by
  have e1 : IntKind.wrap .i64 ((k : Int) - 1) = (k : Int) - 1 := IntWalk.i64_in _ (by omega)
  have e2 : Int.tdiv ((k : Int) - 1) 2 = ((par k : Nat) : Int) := by
    rw [Int.tdiv_eq_ediv_of_nonneg (by omega)]; unfold par; omega
  rw [e1, e2]
  exact IntWalk.i64_in _ (by unfold par; omega)

/-- an entry is moved from a place p to k -/
theorem Moving.move {w0 : World} {eb N : Nat} {e : En} {E : En → Prop} {k p : Nat} (h : Moving w0 hb ab n eb ob N e E w k l at_) (hp : p < N) (hpk : p ≠ k) {w' : World} (ho : Only (ab :: ob.toList) w w') (ha : HeapAt w' hb ab ob n (l.set k (el l p)) (upd at_ (el l p).i k)) :
    Moving w0 hb ab n eb ob N e E w' p (l.set k (el l p)) (upd at_ (el l p).i k) ∧ upd (el (l.set k (el l p))) p e = sw (upd (el l) k e) k p := by
  have hkl : k < l.length := by rw [h.len]; exact h.lt
  have hV : upd (el (l.set k (el l p))) p e = sw (upd (el l) k e) k p := by
    rw [el_set hkl]
    have e1 : (upd (el l) k e) p = el l p := upd_other hpk
    have := sw_upd (V := upd (el l) k e) (k := k) (p := p) (e := e) hpk (upd_same _ _ _)
    rw [e1, upd_upd] at this
    exact this
  have hs := h.inv.swap h.lt hp
  have e1 : (upd (el l) k e) p = el l p := upd_other hpk
  have e2 : (upd (el l) k e) k = e := upd_same _ _ _
  rw [e1, e2] at hs
  have hne : e.i ≠ (el l p).i := fun hc => by
    have := h.inv.inj h.lt hp (by rw [e1, e2]; exact hc)
    exact hpk this.symm
  have hA : upd (upd (upd at_ e.i k) (el l p).i k) e.i p = upd (upd at_ (el l p).i k) e.i p := by
    rw [upd_comm _ hne, upd_upd]
  refine ⟨⟨ha, ?_, by rw [List.length_set]; exact h.len, hp, ?_, fun x => ?_, h.only.trans ho, h.new, h.hbl, h.abl, h.obl⟩, hV⟩
  · refine h.ent.only ho ?_
    have h1 := h.new
    have h2 := h.abl
    intro hc
    rcases List.mem_cons.1 hc with hc | hc
    · omega
    · have := h.obl eb (by simpa using hc)
      omega
  · rw [hV]
    have : (upd (upd at_ (el l p).i k) e.i ((p : Nat) : Int)) = upd (upd (upd at_ e.i ((k : Nat) : Int)) (el l p).i k) e.i p := hA.symm
    rw [this]
    exact hs
  · rw [hV, inH_swap h.lt hp]; exact h.mem x

theorem up_ok (h : HeapAt w hb ab ob n l at_) {k : Nat} (hk : k < l.length) (hlen : l.length ≤ 1024) (hex : HeapEx (el l) l.length k) (hinv : HInv (el l) l.length n (upd at_ (el l k).i k))
    (hK : ∀ w' l' at' k', Only (ab :: ob.toList) w w' → HeapAt w' hb ab ob n l' at' → l'.length = l.length → k' < l.length → el l' k' = el l k → HeapDn (el l') l.length k' →
      (Kids (el l') l.length k' ∨ (k' = k ∧ el l' = el l)) → HInv (el l') l.length n at' → (∀ x, InH (el l') l.length x ↔ InH (el l) l.length x) → K (.tuple #[]) w') :
    CallsV P 228 #[.pointer (some ⟨hb, 0, none⟩), .int .i64 (k : Int)] w K := by
  refine m_heap_Heap_up_ok ?_
  unfold m_heap_Heap_up
  obtain ⟨e, he⟩ : ∃ e, el l k = e := ⟨_, rfl⟩
  obtain ⟨g, c, hob, g1, g2, g3, g4, g5, g6⟩ := h.get hk
  obtain ⟨f1, f2, f3⟩ := g6 k hk
  rw [he] at f1 f2 f3 hinv hK
  refine nn_some ?_
  simp only [addr_add, Nat.add_zero, Nat.zero_add]
  refine ld_slice g1 (ix_nat hk ?_)
  simp only [addr_add, Nat.add_zero, Nat.zero_add, Int.toNat_natCast]
  refine ld_int f1 (ld_int f2 (ld_int f3 (al_intro ?_)))
  obtain ⟨W, hW⟩ : ∃ W, w.alloc (.cells #[.int .i64 0, .int .u64 0, .int .i64 0] 377) = W := ⟨_, rfl⟩
  have o0 : Only [] w W := by rw [← hW]; exact Only.alloc _ _
  have a0 : EnAt W w.heap.size ⟨0, 0, 0⟩ := by rw [← hW]; exact en_new w ⟨0, 0, 0⟩
  rw [hW]
  refine en_store (e := e) a0 (o0.mono (T := ab :: ob.toList) (by simp)) (Nat.le_refl _) fun w1 o1 o1' e1 => ?_
  have hvk : upd (el l) k e = el l := by rw [← he]; exact upd_self _ _
  have hsz : ∀ b, b < w.heap.size → b ∉ [w.heap.size] := fun b hb hc => by have : b = w.heap.size := by simpa using hc
                                                                           omega
  have hgl : ∀ g, ob = some g → g < w.heap.size := fun g' hg' => by rw [hob] at hg'; cases hg'; exact g4
  have h1 : HeapAt w1 hb ab ob n l at_ := (h.only o0 (by simp) (by simp) (by simp)).only o1' (hsz _ h.lt_hb) (hsz _ h.lt_ab) fun b hb => hsz _ (hgl b hb)
  have hmv : Moving w hb ab n w.heap.size ob l.length e (fun x => InH (el l) l.length x) w1 k l at_ :=
    ⟨h1, e1, rfl, hk, by rw [hvk]; exact hinv, fun x => by rw [hvk], o1, Nat.le_refl _, h.lt_hb, h.lt_ab, hgl⟩
  refine loop_dec (σ := Nat) (fun k => k) (fun j => [.pointer (some ⟨hb, 0, none⟩), .int .i64 (j : Int), .pointer (some ⟨w.heap.size, 0, none⟩)])
    (fun j w' => ∃ l' at', Moving w hb ab n w.heap.size ob l.length e (fun x => InH (el l) l.length x) w' j l' at' ∧ HeapEx (upd (el l') j e) l.length j ∧ (Kids (upd (el l') j e) l.length j ∨ (j = k ∧ upd (el l') j e = el l)))
    ?_ (s := k) ⟨l, at_, hmv, by rw [hvk]; exact hex, .inr ⟨rfl, hvk⟩⟩
  rintro j w2 next ⟨l2, at2, hm, hx, hkid⟩ hnext
  have done : ∀ w3, Only [] w2 w3 → (j = 0 ∨ ¬ (upd (el l2) j e j).lt (upd (el l2) j e (par j))) → m_heap_Heap_up_l12_o (0, [.pointer (some ⟨hb, 0, none⟩), .int .i64 (j : Int), .pointer (some ⟨w.heap.size, 0, none⟩)]) (fun h58 k59 e60 => ∃ (n61 : Int), World.cell? w3 (e60.add 0) = some (.int .i64 n61) ∧ ∃ (n62 : Int), World.cell? w3 (e60.add 1) = some (.int .u64 n62) ∧ ∃ (n63 : Int), World.cell? w3 (e60.add 2) = some (.int .i64 n63) ∧ CallsV P 247 #[(.pointer h58), (.int .i64 k59), (.agg #[(.int .i64 n61), (.int .u64 n62), (.int .i64 n63)])] w3 fun v64 w65 => v64 = (.tuple #[]) ∧ K (.tuple #[]) w65) := by
    intro w3 o3 hend
    simp only [m_heap_Heap_up_l12_o, addr_add, Nat.add_zero, Nat.zero_add]
    have e3 := hm.ent.only o3 (by simp)
    have h3 := hm.at'.only o3 (by simp) (by simp) (by simp)
    refine ld_int e3.c0 (ld_int e3.c1 (ld_int e3.c2 (lay_ok h3 (by rw [hm.len]; exact hm.lt) (hm.inv.lt j hm.lt |> fun q => by simpa using q) fun w4 o4 h4 => ⟨rfl, ?_⟩)))
    have hjl : j < l2.length := by rw [hm.len]; exact hm.lt
    have hel := el_set hjl e
    refine hK w4 _ _ j ((hm.only.trans (o3.mono (by simp))).trans o4) h4 (by rw [List.length_set]; exact hm.len) hm.lt (by rw [hel, upd_same]) (by rw [hel]; exact up_end hx hend) ?_ (by rw [hel]; exact hm.inv) fun x => by rw [hel]; exact hm.mem x
    rcases hkid with hkid | ⟨q1, q2⟩
    · exact .inl (by rw [hel]; exact hkid)
    · exact .inr ⟨q1, by rw [hel]; exact q2⟩
  unfold m_heap_Heap_up_l12
  simp only
  by_cases hj : 0 < j
  · refine if_yes (by simpa using hj) ?_
    have hjN := hm.lt
    have hjp : par j < l2.length := by rw [hm.len]; unfold par; omega
    have hpj : par j ≠ j := by unfold par; omega
    have ed := hm.ent.only (Only.drew (S := []) w2) (by simp)
    have hd := hm.at'.only (Only.drew (S := []) w2) (by simp) (by simp) (by simp)
    rw [wrap_par hj (by omega)]
    simp only [addr_add, Nat.add_zero, Nat.zero_add]
    refine ld_int ed.c0 (ld_int ed.c1 (ld_int ed.c2 (nn_some ?_)))
    obtain ⟨g', c', hob', q1, q2, q3, q4, q5, q6⟩ := hd.get hjp
    obtain ⟨p1, p2, p3⟩ := q6 _ hjp
    simp only [addr_add, Nat.add_zero, Nat.zero_add]
    refine ld_slice q1 (ix_nat hjp ?_)
    simp only [addr_add, Nat.add_zero, Nat.zero_add, Int.toNat_natCast]
    refine ld_int p1 (ld_int p2 (ld_int p3 ⟨_, order_q e (el l2 (par j)), fun w3 hb3 => ?_⟩))
    have o3 : Only [] w2 w3 := (Only.drew _).trans (onlyBelow hb3)
    have e3 := hm.ent.only o3 (by simp)
    have h3 := hm.at'.only o3 (by simp) (by simp) (by simp)
    have v1 : upd (el l2) j e (par j) = el l2 (par j) := upd_other hpj
    have v2 : upd (el l2) j e j = e := upd_same _ _ _
    by_cases hlt : ordI e (el l2 (par j)) < 0
    · refine if_yes (by simpa using hlt) ?_
      unfold m_heap_Heap_up_c24
      simp only
      rw [wrap_par hj (by omega)]
      obtain ⟨g'', c'', hob'', r1, r2, r3, r4, r5, r6⟩ := h3.get hjp
      obtain ⟨s1, s2, s3⟩ := r6 _ hjp
      refine nn_some ?_
      simp only [addr_add, Nat.add_zero, Nat.zero_add]
      refine ld_slice r1 (ix_nat hjp ?_)
      simp only [addr_add, Nat.add_zero, Nat.zero_add, Int.toNat_natCast]
      have hpi : (el l2 (par j)).i < n := by have := hm.inv.lt (par j) (by unfold par; omega); rw [v1] at this; exact this
      refine ld_int s1 (ld_int s2 (ld_int s3 (lay_ok h3 (by rw [hm.len]; exact hjN) hpi fun w4 o4 h4 => ⟨rfl, ?_⟩)))
      simp only [m_heap_Heap_up_c24_o]
      obtain ⟨mv, hV⟩ := Moving.move (p := par j) ⟨h3, e3, hm.len, hm.lt, hm.inv, hm.mem, hm.only.trans (o3.mono (by simp)), hm.new, hm.hbl, hm.abl, hm.obl⟩ (by unfold par; omega) hpj o4 h4
      have hl : (upd (el l2) j e j).lt (upd (el l2) j e (par j)) := by rw [v1, v2]; exact (ordI_lt _ _).1 hlt
      obtain ⟨u1, u2⟩ := up_step hx hj hjN hl
      refine hnext (par j) w4 (by unfold par; omega) ⟨_, _, mv, by rw [hV]; exact u1, .inl (by rw [hV]; exact u2)⟩
    · refine if_no (by simpa using hlt) (done w3 o3 (.inr ?_))
      rw [v1, v2]
      exact fun hc => hlt ((ordI_lt _ _).2 hc)
  · exact if_no (by simpa using hj) (done _ (Only.drew _) (.inl (by omega)))

end Go.M

/- The heap, downwards. -/
set_option linter.all false
set_option linter.constructorNameAsVariable false
set_option maxRecDepth 100000
namespace Go.M
open Go Go.Eng Go.RowKit

variable {w : World} {K : Value → World → Prop} {hb ab n : Nat} {ob : Option Nat} {l : List En} {at_ : Nat → Int}

theorem wrap_c1 {k : Nat} (h : k ≤ 1000000) : IntKind.wrap .i64 ((IntKind.wrap .i64 (2 * (k : Int))) + 1) = ((2 * k + 1 : Nat) : Int) := by
  have e1 : IntKind.wrap .i64 (2 * (k : Int)) = 2 * (k : Int) := IntWalk.i64_in _ (by omega)
  rw [e1]
  have e2 : (2 * (k : Int) + 1) = ((2 * k + 1 : Nat) : Int) := by omega
  rw [e2]
  exact IntWalk.i64_in _ (by omega)
theorem wrap_c2 {k : Nat} (h : k ≤ 1000000) : IntKind.wrap .i64 (((2 * k + 1 : Nat) : Int) + 1) = ((2 * k + 2 : Nat) : Int) := by
  have e2 : (((2 * k + 1 : Nat) : Int) + 1) = ((2 * k + 2 : Nat) : Int) := by omega
  rw [e2]
  exact IntWalk.i64_in _ (by omega)

theorem down97 {w0 : World} {eb N : Nat} {e : En} {E : En → Prop} {k c : Nat} (hN : N ≤ 1024) (hm : Moving w0 hb ab n eb ob N e E w k l at_) (hc : c = 2 * k + 1 ∨ c = 2 * k + 2) {out : Nat × List Value → World → Prop}
    (stop : ∀ w', Only [] w w' → (N ≤ c ∨ ¬ (el l c).lt e) → out (0, [.pointer (some ⟨hb, 0, none⟩), .int .i64 (k : Int), .pointer (some ⟨eb, 0, none⟩)]) w')
    (go : c < N → (el l c).lt e → ∀ w' l' at', Moving w0 hb ab n eb ob N e E w' c l' at' → upd (el l') c e = sw (upd (el l) k e) k c → out (1, [.pointer (some ⟨hb, 0, none⟩), .int .i64 (c : Int), .pointer (some ⟨eb, 0, none⟩)]) w') :
    m_heap_Heap_down_c97 [.pointer (some ⟨hb, 0, none⟩), .int .i64 (k : Int), .pointer (some ⟨eb, 0, none⟩), .int .i64 (c : Int)] w out := by
  unfold m_heap_Heap_down_c97
  simp only
  have od : Only [] w w.drew := Only.drew w
  have hd := hm.at'.only od (by simp) (by simp) (by simp)
  have ed := hm.ent.only od (by simp)
  have hlt := hm.lt
  obtain ⟨g, c', hob, q1, q2, q3, q4, q5, q6⟩ := hd.get (by rw [hm.len]; exact hlt)
  refine nn_some ?_
  simp only [addr_add, Nat.add_zero, Nat.zero_add]
  refine ld_slice q1 ?_
  rw [hm.len]
  by_cases hcN : N ≤ c
  · exact if_yes (by simp; omega) (stop _ od (.inl hcN))
  · refine if_no (by simp; omega) (ld_int ed.c0 (ld_int ed.c1 (ld_int ed.c2 (nn_some (ld_slice q1 ?_)))))
    have hcl : c < l.length := by rw [hm.len]; omega
    obtain ⟨p1, p2, p3⟩ := q6 c hcl
    refine ix_nat hcl ?_
    simp only [addr_add, Nat.add_zero, Nat.zero_add, Int.toNat_natCast]
    refine ld_int p1 (ld_int p2 (ld_int p3 ⟨_, order_q e (el l c), fun w3 hb3 => ?_⟩))
    have o3 : Only [] w w3 := od.trans (onlyBelow hb3)
    by_cases ho : ordI e (el l c) ≤ 0
    · exact if_yes (by simpa using ho) (stop _ o3 (.inr fun hc => by have := (ordI_pos e (el l c)).2 hc; omega))
    · refine if_no (by simpa using ho) ?_
      have hl : (el l c).lt e := (ordI_pos e (el l c)).1 (by omega)
      have h3 := hm.at'.only o3 (by simp) (by simp) (by simp)
      have e3 := hm.ent.only o3 (by simp)
      obtain ⟨g', c'', hob', r1, r2, r3, r4, r5, r6⟩ := h3.get hcl
      obtain ⟨s1, s2, s3⟩ := r6 c hcl
      unfold m_heap_Heap_down_c195
      simp only
      refine nn_some ?_
      simp only [addr_add, Nat.add_zero, Nat.zero_add]
      refine ld_slice r1 (ix_nat hcl ?_)
      simp only [addr_add, Nat.add_zero, Nat.zero_add, Int.toNat_natCast]
      have hck : c ≠ k := by omega
      have hci : (el l c).i < n := by
        have := hm.inv.lt c (by omega)
        rw [upd_other hck] at this
        exact this
      refine ld_int s1 (ld_int s2 (ld_int s3 (lay_ok h3 (by rw [hm.len]; exact hlt) hci fun w4 o4 h4 => ⟨rfl, ?_⟩)))
      simp only [m_heap_Heap_down_c195_o]
      obtain ⟨mv, hV⟩ := Moving.move (p := c) ⟨h3, e3, hm.len, hm.lt, hm.inv, hm.mem, hm.only.trans (o3.mono (by simp)), hm.new, hm.hbl, hm.abl, hm.obl⟩ (by omega) hck o4 h4
      exact go (by omega) hl w4 _ _ mv hV

theorem down_ok (h : HeapAt w hb ab ob n l at_) {k : Nat} (hk : k < l.length) (hlen : l.length ≤ 1024) (hex : HeapDn (el l) l.length k) (hinv : HInv (el l) l.length n (upd at_ (el l k).i k))
    (hK : ∀ w' l' at', Only (ab :: ob.toList) w w' → HeapAt w' hb ab ob n l' at' → l'.length = l.length → HeapOk (el l') l.length → HInv (el l') l.length n at' → (∀ x, InH (el l') l.length x ↔ InH (el l) l.length x) → K (.tuple #[]) w') :
    CallsV P 248 #[.pointer (some ⟨hb, 0, none⟩), .int .i64 (k : Int)] w K := by
  refine m_heap_Heap_down_ok ?_
  unfold m_heap_Heap_down
  obtain ⟨e, he⟩ : ∃ e, el l k = e := ⟨_, rfl⟩
  obtain ⟨g, c, hob, g1, g2, g3, g4, g5, g6⟩ := h.get hk
  obtain ⟨f1, f2, f3⟩ := g6 k hk
  rw [he] at f1 f2 f3 hinv
  refine nn_some ?_
  simp only [addr_add, Nat.add_zero, Nat.zero_add]
  refine ld_slice g1 (ix_nat hk ?_)
  simp only [addr_add, Nat.add_zero, Nat.zero_add, Int.toNat_natCast]
  refine ld_int f1 (ld_int f2 (ld_int f3 (al_intro ?_)))
  obtain ⟨W, hW⟩ : ∃ W, w.alloc (.cells #[.int .i64 0, .int .u64 0, .int .i64 0] 377) = W := ⟨_, rfl⟩
  have o0 : Only [] w W := by rw [← hW]; exact Only.alloc _ _
  have a0 : EnAt W w.heap.size ⟨0, 0, 0⟩ := by rw [← hW]; exact en_new w ⟨0, 0, 0⟩
  rw [hW]
  refine en_store (e := e) a0 (o0.mono (T := ab :: ob.toList) (by simp)) (Nat.le_refl _) fun w1 o1 o1' e1 => ?_
  have hvk : upd (el l) k e = el l := by rw [← he]; exact upd_self _ _
  have hsz : ∀ b, b < w.heap.size → b ∉ [w.heap.size] := fun b hb hc => by have : b = w.heap.size := by simpa using hc
                                                                           omega
  have hgl : ∀ g, ob = some g → g < w.heap.size := fun g' hg' => by rw [hob] at hg'; cases hg'; exact g4
  have h1 : HeapAt w1 hb ab ob n l at_ := (h.only o0 (by simp) (by simp) (by simp)).only o1' (hsz _ h.lt_hb) (hsz _ h.lt_ab) fun b hb => hsz _ (hgl b hb)
  have hmv : Moving w hb ab n w.heap.size ob l.length e (fun x => InH (el l) l.length x) w1 k l at_ :=
    ⟨h1, e1, rfl, hk, by rw [hvk]; exact hinv, fun x => by rw [hvk], o1, Nat.le_refl _, h.lt_hb, h.lt_ab, hgl⟩
  refine loop_dec (σ := Nat) (fun k => l.length - k) (fun j => [.pointer (some ⟨hb, 0, none⟩), .int .i64 (j : Int), .pointer (some ⟨w.heap.size, 0, none⟩)])
    (fun j w' => ∃ l' at', Moving w hb ab n w.heap.size ob l.length e (fun x => InH (el l) l.length x) w' j l' at' ∧ HeapDn (upd (el l') j e) l.length j)
    ?_ (s := k) ⟨l, at_, hmv, by rw [hvk]; exact hex⟩
  rintro j w2 next ⟨l2, at2, hm, hx⟩ hnext
  have hjN := hm.lt
  have hjl : j < l2.length := by rw [hm.len]; exact hm.lt
  have done : ∀ w3, Only [] w2 w3 → Kids (upd (el l2) j e) l.length j → m_heap_Heap_down_l12_o (0, [.pointer (some ⟨hb, 0, none⟩), .int .i64 (j : Int), .pointer (some ⟨w.heap.size, 0, none⟩)]) (fun h58 k59 e60 => ∃ (n61 : Int), World.cell? w3 (e60.add 0) = some (.int .i64 n61) ∧ ∃ (n62 : Int), World.cell? w3 (e60.add 1) = some (.int .u64 n62) ∧ ∃ (n63 : Int), World.cell? w3 (e60.add 2) = some (.int .i64 n63) ∧ CallsV P 247 #[(.pointer h58), (.int .i64 k59), (.agg #[(.int .i64 n61), (.int .u64 n62), (.int .i64 n63)])] w3 fun v64 w65 => v64 = (.tuple #[]) ∧ K (.tuple #[]) w65) := by
    intro w3 o3 hkid
    simp only [m_heap_Heap_down_l12_o, addr_add, Nat.add_zero, Nat.zero_add]
    have e3 := hm.ent.only o3 (by simp)
    have h3 := hm.at'.only o3 (by simp) (by simp) (by simp)
    refine ld_int e3.c0 (ld_int e3.c1 (ld_int e3.c2 (lay_ok h3 hjl (hm.inv.lt j hm.lt |> fun q => by simpa using q) fun w4 o4 h4 => ⟨rfl, ?_⟩)))
    have hel := el_set hjl e
    exact hK w4 _ _ ((hm.only.trans (o3.mono (by simp))).trans o4) h4 (by rw [List.length_set]; exact hm.len) (by rw [hel]; exact dn_end hx hkid) (by rw [hel]; exact hm.inv) fun x => by rw [hel]; exact hm.mem x
  have v2 : upd (el l2) j e j = e := upd_same _ _ _
  have kid : ∀ c, (c = 2 * j + 1 ∨ c = 2 * j + 2) → upd (el l2) j e c = el l2 c := fun c hc => upd_other (by omega)
  have main : ∀ c w3, Only [] w2 w3 → (c = 2 * j + 1 ∨ c = 2 * j + 2) → (∀ x, 0 < x → x < l.length → par x = j → c < l.length ∧ ¬ (upd (el l2) j e x).lt (el l2 c)) →
      m_heap_Heap_down_c97 [.pointer (some ⟨hb, 0, none⟩), .int .i64 (j : Int), .pointer (some ⟨w.heap.size, 0, none⟩), .int .i64 (c : Int)] w3 fun y w' => m_heap_Heap_down_c97_o y
        (fun h92 k93 e94 => m_heap_Heap_down_l12_o (0, [(.pointer h92), (.int .i64 k93), (.pointer (some e94))]) (fun h58 k59 e60 => ∃ (n61 : Int), World.cell? w' (e60.add 0) = some (.int .i64 n61) ∧ ∃ (n62 : Int), World.cell? w' (e60.add 1) = some (.int .u64 n62) ∧ ∃ (n63 : Int), World.cell? w' (e60.add 2) = some (.int .i64 n63) ∧ CallsV P 247 #[(.pointer h58), (.int .i64 k59), (.agg #[(.int .i64 n61), (.int .u64 n62), (.int .i64 n63)])] w' fun v64 w65 => v64 = (.tuple #[]) ∧ K (.tuple #[]) w65))
        (fun h95 k96 e97 => next [(.pointer h95), (.int .i64 k96), (.pointer (some e97))] w') := by
    intro c w3 o3 hc hmin
    have hm3 : Moving w hb ab n w.heap.size ob l.length e (fun x => InH (el l) l.length x) w3 j l2 at2 := ⟨hm.at'.only o3 (by simp) (by simp) (by simp), hm.ent.only o3 (by simp), hm.len, hm.lt, hm.inv, hm.mem, hm.only.trans (o3.mono (by simp)), hm.new, hm.hbl, hm.abl, hm.obl⟩
    refine down97 hlen hm3 hc (fun w4 o4 hs => ?_) (fun hcN hl w4 l4 at4 mv hV => ?_)
    · simp only [m_heap_Heap_down_c97_o]
      refine done w4 (o3.trans o4) fun x h0 hxn hp => ?_
      obtain ⟨g1, g2⟩ := hmin x h0 hxn hp
      rcases hs with hs | hs
      · omega
      · rw [v2]; exact nlt_trans hs g2
    · simp only [m_heap_Heap_down_c97_o]
      refine hnext c w4 (by omega) ⟨_, _, mv, ?_⟩
      rw [hV]
      refine dn_step hx (by omega) hcN (by unfold par; omega) (fun x h0 hxn hp => ?_) (by rw [kid c hc, v2]; exact hl)
      rw [kid c hc]
      exact (hmin x h0 hxn hp).2
  unfold m_heap_Heap_down_l12
  simp only
  have od : Only [] w2 w2.drew := Only.drew w2
  have hd := hm.at'.only od (by simp) (by simp) (by simp)
  obtain ⟨g', c', hob', q1, q2, q3, q4, q5, q6⟩ := hd.get hjl
  rw [wrap_c1 (by omega), wrap_c2 (by omega)]
  refine nn_some ?_
  simp only [addr_add, Nat.add_zero, Nat.zero_add]
  refine ld_slice q1 ?_
  rw [hm.len]
  have twoKids : ∀ x, 0 < x → par x = j → x = 2 * j + 1 ∨ x = 2 * j + 2 := fun x h0 hp => by unfold par at hp; omega
  by_cases hc2 : 2 * j + 2 < l.length
  · refine if_yes (by simp; omega) (nn_some (ld_slice q1 (ix_nat (by rw [hm.len]; exact hc2) ?_)))
    have hc2l : 2 * j + 2 < l2.length := by rw [hm.len]; exact hc2
    have hc1l : 2 * j + 1 < l2.length := by omega
    obtain ⟨p1, p2, p3⟩ := q6 _ hc2l
    obtain ⟨r1, r2, r3⟩ := q6 _ hc1l
    simp only [addr_add, Nat.add_zero, Nat.zero_add, Int.toNat_natCast]
    refine ld_int p1 (ld_int p2 (ld_int p3 (nn_some (ld_slice q1 (ix_nat hc1l ?_)))))
    simp only [addr_add, Nat.add_zero, Nat.zero_add, Int.toNat_natCast]
    refine ld_int r1 (ld_int r2 (ld_int r3 ⟨_, order_q (el l2 (2 * j + 2)) (el l2 (2 * j + 1)), fun w3 hb3 => ?_⟩))
    have o3 : Only [] w2 w3 := od.trans (onlyBelow hb3)
    by_cases ho : ordI (el l2 (2 * j + 2)) (el l2 (2 * j + 1)) < 0
    · refine if_yes (by simpa using ho) (main (2 * j + 2) w3 o3 (.inr rfl) fun x h0 hxn hp => ⟨hc2, ?_⟩)
      have hl := (ordI_lt _ _).1 ho
      rw [kid x (twoKids x h0 hp)]
      rcases twoKids x h0 hp with e | e
      · rw [e]; exact lt_asymm hl
      · rw [e]; exact lt_irrefl _
    · refine if_no (by simpa using ho) (main (2 * j + 1) w3 o3 (.inl rfl) fun x h0 hxn hp => ⟨by omega, ?_⟩)
      rw [kid x (twoKids x h0 hp)]
      rcases twoKids x h0 hp with e | e
      · rw [e]; exact lt_irrefl _
      · rw [e]; exact fun hc => ho ((ordI_lt _ _).2 hc)
  · refine if_no (by simp; omega) (main (2 * j + 1) _ od (.inl rfl) fun x h0 hxn hp => ?_)
    have e : x = 2 * j + 1 := by rcases twoKids x h0 hp with e | e <;> omega
    refine ⟨by omega, ?_⟩
    rw [kid x (.inl e), e]
    exact lt_irrefl _

end Go.M

namespace Go.M
open Go Go.Eng Go.RowKit
set_option linter.all false
set_option linter.constructorNameAsVariable false
set_option maxRecDepth 100000
attribute [local irreducible] evCode owes Owed

/-- overfall/tally.New -/
def m_tally_New (w0 : World) (K : Value → World → Prop) : Prop :=
  Al #[(.slice none 0 0)] 188 w0 fun b1 w2 => K (.pointer (some (⟨b1, 0, none⟩ : Addr))) w2

theorem func_79 : P.funcs[79]? = some (fnOf 79) := by kernel_rfl
theorem body_79 : (fnOf 79).body = some (bodyOf 79) := by kernel_rfl
theorem m_tally_New_owed : Owed P O0 (bodyOf 79) 1 := owed_of (cast (by kernel_rfl) True.intro)
theorem m_tally_New_eq (w0 : World) (K : Value → World → Prop) : m_tally_New w0 K = evCode T0 P O0 (bodyOf 79) 1 (env0 (Array.toList #[]) (fnOf 79).ntmps) w0 (endK T0 (fnOf 79).results.toList K) := by kernel_rfl
theorem m_tally_New_ok {w0 : World} {K : Value → World → Prop} (h : m_tally_New w0 K) : CallsV P 79 #[] w0 K :=
  func_sound W2 func_79 body_79 m_tally_New_owed (Eq.mp (m_tally_New_eq w0 K) h)


/-- (*overfall/tally.Log).Add -/
def m_tally_Log_Add (l1 : Option Addr) (o2 : Int) (o3 : Int) (o4 : Int) (o5 : Int) (o6 : Int) (o7 : Int) (w0 : World) (K : Value → World → Prop) : Prop :=
  Al #[(.int .u64 o2), (.int .i64 o3), (.int .i64 o4), (.int .u8 o5), (.int .i64 o6), (.int .i64 o7)] 330 w0 fun b8 w9 => (if (!Option.isNone l1) = true then Nn l1 fun l10 => ∃ (sA11 : Option Addr) (sL12 : Nat) (sC13 : Nat), World.cell? (World.drew w9) (l10.add 0) = some (.slice sA11 sL12 sC13) ∧ ∃ (n14 : Int), World.cell? (World.drew w9) ((⟨b8, 0, none⟩ : Addr).add 0) = some (.int .u64 n14) ∧ ∃ (n15 : Int), World.cell? (World.drew w9) ((⟨b8, 0, none⟩ : Addr).add 1) = some (.int .i64 n15) ∧ ∃ (n16 : Int), World.cell? (World.drew w9) ((⟨b8, 0, none⟩ : Addr).add 2) = some (.int .i64 n16) ∧ ∃ (n17 : Int), World.cell? (World.drew w9) ((⟨b8, 0, none⟩ : Addr).add 3) = some (.int .u8 n17) ∧ ∃ (n18 : Int), World.cell? (World.drew w9) ((⟨b8, 0, none⟩ : Addr).add 4) = some (.int .i64 n18) ∧ ∃ (n19 : Int), World.cell? (World.drew w9) ((⟨b8, 0, none⟩ : Addr).add 5) = some (.int .i64 n19) ∧ Al #[(.int .u64 n14), (.int .i64 n15), (.int .i64 n16), (.int .u8 n17), (.int .i64 n18), (.int .i64 n19)] 330 (World.drew w9) fun b20 w21 => World.cell? w21 (l10.add 0) = some (.slice sA11 sL12 sC13) ∧ RunB P .append #[186, 186] 186 #[false, false] #[(.slice sA11 sL12 sC13), (.slice (some (⟨b20, 0, none⟩ : Addr)) 1 1)] w21 fun v22 w23 => ∃ (sA24 : Option Addr) (sL25 : Nat) (sC26 : Nat), v22 = (.slice sA24 sL25 sC26) ∧ Nn l1 fun l27 => St ((l27.add 0).add 0) (.slice sA24 sL25 sC26) w23 fun w28 => K (.tuple #[]) w28 else K (.tuple #[]) w9)

theorem func_179 : P.funcs[179]? = some (fnOf 179) := by kernel_rfl
theorem body_179 : (fnOf 179).body = some (bodyOf 179) := by kernel_rfl
theorem m_tally_Log_Add_owed : Owed P O0 (bodyOf 179) 1 := owed_of (cast (by kernel_rfl) True.intro)
theorem m_tally_Log_Add_eq (l1 : Option Addr) (o2 : Int) (o3 : Int) (o4 : Int) (o5 : Int) (o6 : Int) (o7 : Int) (w0 : World) (K : Value → World → Prop) : m_tally_Log_Add l1 o2 o3 o4 o5 o6 o7 w0 K = evCode T0 P O0 (bodyOf 179) 1 (env0 (Array.toList #[(.pointer l1), (.agg #[(.int .u64 o2), (.int .i64 o3), (.int .i64 o4), (.int .u8 o5), (.int .i64 o6), (.int .i64 o7)])]) (fnOf 179).ntmps) w0 (endK T0 (fnOf 179).results.toList K) := by kernel_rfl
theorem m_tally_Log_Add_ok {l1 : Option Addr} {o2 : Int} {o3 : Int} {o4 : Int} {o5 : Int} {o6 : Int} {o7 : Int} {w0 : World} {K : Value → World → Prop} (h : m_tally_Log_Add l1 o2 o3 o4 o5 o6 o7 w0 K) : CallsV P 179 #[(.pointer l1), (.agg #[(.int .u64 o2), (.int .i64 o3), (.int .i64 o4), (.int .u8 o5), (.int .i64 o6), (.int .i64 o7)])] w0 K :=
  func_sound W2 func_179 body_179 m_tally_Log_Add_owed (Eq.mp (m_tally_Log_Add_eq l1 o2 o3 o4 o5 o6 o7 w0 K) h)


/-- (*overfall/tally.Log).Len -/
def m_tally_Log_Len (l1 : Option Addr) (w0 : World) (K : Value → World → Prop) : Prop :=
  (if (Option.isNone l1) = true then K (.int .i64 0) w0 else Nn l1 fun l2 => ∃ (sA3 : Option Addr) (sL4 : Nat) (sC5 : Nat), World.cell? w0 (l2.add 0) = some (.slice sA3 sL4 sC5) ∧ K (.int .i64 ((sL4 : Nat) : Int)) w0)

theorem func_33 : P.funcs[33]? = some (fnOf 33) := by kernel_rfl
theorem body_33 : (fnOf 33).body = some (bodyOf 33) := by kernel_rfl
theorem m_tally_Log_Len_owed : Owed P O0 (bodyOf 33) 1 := owed_of (cast (by kernel_rfl) True.intro)
theorem m_tally_Log_Len_eq (l1 : Option Addr) (w0 : World) (K : Value → World → Prop) : m_tally_Log_Len l1 w0 K = evCode T0 P O0 (bodyOf 33) 1 (env0 (Array.toList #[(.pointer l1)]) (fnOf 33).ntmps) w0 (endK T0 (fnOf 33).results.toList K) := by kernel_rfl
theorem m_tally_Log_Len_ok {l1 : Option Addr} {w0 : World} {K : Value → World → Prop} (h : m_tally_Log_Len l1 w0 K) : CallsV P 33 #[(.pointer l1)] w0 K :=
  func_sound W2 func_33 body_33 m_tally_Log_Len_owed (Eq.mp (m_tally_Log_Len_eq l1 w0 K) h)


end Go.M
