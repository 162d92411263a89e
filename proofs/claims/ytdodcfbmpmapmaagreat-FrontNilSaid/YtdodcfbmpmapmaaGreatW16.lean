/- Proofs about the front of the overload controller, part 16: C26 Pred2. -/
import Derived.Test.YtdodcfbmpmapmaaGreatW15
import Derived.Test.YtdodcfbmpmapmaaGreatW04
set_option linter.all false
set_option linter.constructorNameAsVariable false
set_option linter.unusedVariables false
/- What the functions of the queue do: how many, the ends, Get. -/
set_option linter.all false
set_option linter.constructorNameAsVariable false
set_option maxRecDepth 100000
namespace Go.M
open Go Go.Eng Go.RowKit

variable {w w' : World} {K : Value → World → Prop} {d : QIds} {n nt : Nat} {T : Int} {rows : Nat → List (Int × Rq)}

theorem qLen_ok (h : QV w d n nt T rows) (hK : K (.int .i64 ((allR rows nt).length : Nat)) w) : CallsV P 86 #[.pointer (some ⟨d.qb, 0, none⟩)] w K := by
  obtain ⟨q, R, h1, h2, rfl, rfl, h3⟩ := h.ex
  rw [allR_rows h3, ← h2.tot] at hK
  exact queueLen_ok h1 hK

theorem qCount_ok (h : QV w d n nt T rows) {t : Int} (hK : K (.int .i64 (if 0 ≤ t ∧ t < (nt : Int) then ((rows t.toNat).length : Nat) else 0)) w) : CallsV P 132 #[.pointer (some ⟨d.qb, 0, none⟩), .int .i64 t] w K := by
  obtain ⟨q, R, h1, h2, rfl, rfl, h3⟩ := h.ex
  refine queueCount_ok h1 ?_
  by_cases ht : 0 ≤ t ∧ t < (q.rows.nr : Int)
  · rw [if_pos ht] at hK ⊢
    rw [h3, if_pos (by omega), List.length_map] at hK
    rw [h2.rows.count _ (by omega)]
    exact hK
  · rw [if_neg ht] at hK ⊢
    exact hK

theorem endM_of {q : QueueM} {R : Nat → List Nat} (h2 : QOk q R T) {t : Nat} (ht : t < q.rows.nr) (b : Bool) : q.rows.endM (t : Int) b = if R t = [] then (0, false) else (if b = true then lst (R t) (-1) else hd (R t) (-1), true) := by
  unfold RowsM.endM
  have hc := h2.rows.count t ht
  simp only [Int.toNat_natCast]
  cases hR : R t with
  | nil => rw [hR] at hc; rw [if_neg (by rw [hc]; simp), if_pos rfl]
  | cons i l =>
    rw [hR] at hc
    rw [if_pos ⟨by omega, by omega, by rw [hc]; simp; omega⟩, h2.rows.back t ht, h2.rows.front t ht, hR, if_neg (show ¬ (i :: l = []) by simp)]

theorem qHead_ok (h : QV w d n nt T rows) {t : Nat} (ht : t < nt) {x : Int} {r : Rq} {l : List (Int × Rq)} (hr : rows t = (x, r) :: l) (hK : K (.tuple #[.int .u64 x, .bool true]) w) : CallsV P 135 #[.pointer (some ⟨d.qb, 0, none⟩), .int .i64 (t : Int)] w K := by
  obtain ⟨q, R, h1, h2, rfl, rfl, h3⟩ := h.ex
  obtain ⟨a', i, b', e1, e2, e3, e4, e5⟩ := row_split (a := []) h3 ht hr
  have : a' = [] := by cases a' with | nil => rfl | cons _ _ => simp at e2
  subst this
  have hi := (h2.mem h1.n_rows ht (i := i) (by rw [e1]; simp)).1
  have he := endM_of h2 ht false
  rw [if_neg (by rw [e1]; simp), e1] at he
  have hd' : hd ([] ++ i :: b') (-1) = (i : Int) := rfl
  rw [hd'] at he
  refine queueHead_ok h1 (fun _ => by rw [he]; simp; omega) ?_
  rw [he]
  simpa [e3] using hK

theorem qHead_none (h : QV w d n nt T rows) {t : Nat} (ht : t < nt) (hr : rows t = []) (hK : K (.tuple #[.int .u64 0, .bool false]) w) : CallsV P 135 #[.pointer (some ⟨d.qb, 0, none⟩), .int .i64 (t : Int)] w K := by
  obtain ⟨q, R, h1, h2, rfl, rfl, h3⟩ := h.ex
  rw [h3, if_pos ht] at hr
  have he := endM_of h2 ht false
  rw [if_pos (by simpa using hr)] at he
  refine queueHead_ok h1 (fun hc => by rw [he] at hc; cases hc) ?_
  rw [he]
  simpa using hK

theorem qTail_ok (h : QV w d n nt T rows) {t : Nat} (ht : t < nt) {x : Int} {r : Rq} {l : List (Int × Rq)} (hr : rows t = l ++ [(x, r)]) (hK : K (.tuple #[.int .u64 x, .bool true]) w) : CallsV P 128 #[.pointer (some ⟨d.qb, 0, none⟩), .int .i64 (t : Int)] w K := by
  obtain ⟨q, R, h1, h2, rfl, rfl, h3⟩ := h.ex
  obtain ⟨a', i, b', e1, e2, e3, e4, e5⟩ := row_split (b := []) h3 ht hr
  have : b' = [] := by cases b' with | nil => rfl | cons _ _ => simp at e5
  subst this
  have hi := (h2.mem h1.n_rows ht (i := i) (by rw [e1]; simp)).1
  have he := endM_of h2 ht true
  rw [if_neg (by rw [e1]; simp), if_pos rfl, e1, lst_app] at he
  refine queueTail_ok h1 (fun _ => by rw [he]; simp; omega) ?_
  rw [he]
  simpa [e3] using hK

theorem qTail_none (h : QV w d n nt T rows) {t : Nat} (ht : t < nt) (hr : rows t = []) (hK : K (.tuple #[.int .u64 0, .bool false]) w) : CallsV P 128 #[.pointer (some ⟨d.qb, 0, none⟩), .int .i64 (t : Int)] w K := by
  obtain ⟨q, R, h1, h2, rfl, rfl, h3⟩ := h.ex
  rw [h3, if_pos ht] at hr
  have he := endM_of h2 ht true
  rw [if_pos (by simpa using hr)] at he
  refine queueTail_ok h1 (fun hc => by rw [he] at hc; cases hc) ?_
  rw [he]
  simpa using hK

theorem qGet_ok (h : QV w d n nt T rows) (hT : T ≤ 4294967295) {t : Nat} (ht : t < nt) {x : Int} {r : Rq} (hr : (x, r) ∈ rows t) (hK : ∀ w', Only [] w w' → K (.tuple #[r.v, .int .i64 0]) w') : CallsV P 136 #[.pointer (some ⟨d.qb, 0, none⟩), .int .u64 x] w K := by
  obtain ⟨q, R, h1, h2, rfl, rfl, h3⟩ := h.ex
  obtain ⟨a, b, hab⟩ := List.append_of_mem hr
  obtain ⟨a', i, b', e1, e2, e3, e4, e5⟩ := row_split h3 ht hab
  subst e3 e4
  obtain ⟨hi, htk, hrow⟩ := h2.mem h1.n_rows ht (i := i) (by rw [e1]; simp)
  obtain ⟨fl, hs⟩ := h2.slab
  obtain ⟨k1, k2, k3, k4, k5⟩ := h2.at h1.n_slab hi htk hT
  have hget : q.slab.get (q.handles i) = (q.slab.req i, 0) := by unfold SlabM.get; rw [k1]
  refine queueGet_ok h1 k2 k3 (fun i => ⟨(hs.turns i).1, by have := (hs.turns i).2; omega⟩) fun w' o => ?_
  rw [hget]
  exact hK w' o

/-- the handles differ, and are no zeros -/
theorem QV.pos (h : QV w d n nt T rows) (hT : T ≤ 4294967295) {t : Nat} {x : Int} {r : Rq} (hr : (x, r) ∈ rows t) : t < nt ∧ 0 < x ∧ x < 18446744073709551616 ∧ r.tier = t := by
  obtain ⟨q, R, h1, h2, rfl, rfl, h3⟩ := h.ex
  rw [h3 t] at hr
  split at hr
  · rename_i ht
    obtain ⟨i, hi, e⟩ := List.mem_map.1 hr
    simp only [Prod.mk.injEq] at e
    obtain ⟨rfl, rfl⟩ := e
    obtain ⟨hi2, htk, _⟩ := h2.mem h1.n_rows ht hi
    obtain ⟨k1, k2, k3, k4, k5⟩ := h2.at h1.n_slab hi2 htk hT
    exact ⟨ht, by omega, k3, h2.tier t ht i hi⟩
  · cases hr

theorem QV.inj (h : QV w d n nt T rows) (hT : T ≤ 4294967295) {t t' : Nat} {x : Int} {r r' : Rq} (hr : (x, r) ∈ rows t) (hr' : (x, r') ∈ rows t') : t = t' ∧ r = r' := by
  have p1 := h.pos hT hr
  have p2 := h.pos hT hr'
  obtain ⟨q, R, h1, h2, rfl, rfl, h3⟩ := h.ex
  rw [h3 t, if_pos p1.1] at hr
  rw [h3 t', if_pos p2.1] at hr'
  obtain ⟨i, hi, e⟩ := List.mem_map.1 hr
  obtain ⟨j, hj, e'⟩ := List.mem_map.1 hr'
  simp only [Prod.mk.injEq] at e e'
  obtain ⟨hi2, htk, q1⟩ := h2.mem h1.n_rows p1.1 hi
  obtain ⟨hj2, htk', q2⟩ := h2.mem h1.n_rows p2.1 hj
  obtain ⟨k1, k2, k3, k4, k5⟩ := h2.at h1.n_slab hi2 htk hT
  obtain ⟨k1', k2', k3', k4', k5'⟩ := h2.at h1.n_slab hj2 htk' hT
  have hij : i = j := by rw [e.1] at k5; rw [e'.1] at k5'; omega
  subst hij
  exact ⟨by omega, e.2.symm.trans e'.2⟩

theorem QV.nodupRow (h : QV w d n nt T rows) (hT : T ≤ 4294967295) (t : Nat) : (rows t).Nodup := by
  obtain ⟨q, R, h1, h2, rfl, rfl, h3⟩ := h.ex
  rw [h3 t]
  split
  · rename_i ht
    rw [List.nodup_iff_pairwise_ne, List.pairwise_map]
    refine List.Pairwise.imp_of_mem ?_ (List.nodup_iff_pairwise_ne.1 (h2.rows.nodup t ht))
    intro a b ha hb hne e
    simp only [Prod.mk.injEq] at e
    obtain ⟨ha2, hta, _⟩ := h2.mem h1.n_rows ht ha
    obtain ⟨hb2, htb, _⟩ := h2.mem h1.n_rows ht hb
    obtain ⟨_, _, _, _, k5⟩ := h2.at h1.n_slab ha2 hta hT
    obtain ⟨_, _, _, _, k5'⟩ := h2.at h1.n_slab hb2 htb hT
    rw [e.1] at k5
    omega
  · exact List.nodup_nil

theorem QV.total (h : QV w d n nt T rows) : (allR rows nt).length ≤ n ∧ n ≤ 1024 ∧ nt ≤ 8 := by
  obtain ⟨q, R, h1, h2, rfl, rfl, h3⟩ := h.ex
  obtain ⟨fl, hs⟩ := h2.slab
  have := hs.len_le
  have := h2.tot
  have := h1.n_slab
  rw [allR_rows h3]
  exact ⟨by omega, h2.n1, h2.nr1⟩

theorem qFirst_none (h : QV w d n nt T rows) (h0 : allR rows nt = []) (hK : K (.tuple #[.int .i64 0, .bool false]) w) : CallsV P 134 #[.pointer (some ⟨d.qb, 0, none⟩)] w K := by
  obtain ⟨q, R, h1, h2, rfl, rfl, h3⟩ := h.ex
  refine queueFirst_none h1 ?_ hK
  rw [h2.tot, ← allR_rows h3, h0]; rfl

theorem qFirst_ok (h : QV w d n nt T rows) {t : Nat} (ht : t < nt) (h1 : rows t ≠ []) (h2 : ∀ j, j < t → rows j = []) (hK : K (.tuple #[.int .i64 (t : Int), .bool true]) w) : CallsV P 134 #[.pointer (some ⟨d.qb, 0, none⟩)] w K := by
  obtain ⟨q, R, g1, g2, rfl, rfl, g3⟩ := h.ex
  have hc : ∀ j, j < q.rows.nr → q.rows.count j = ((rows j).length : Nat) := fun j hj => by rw [g2.rows.count j hj, g3 j, if_pos hj, List.length_map]
  have hlen : 0 < (rows t).length := List.length_pos_iff.2 h1
  refine queueFirst_some g1 ?_ ht (by have := g2.nr1; omega) (by rw [hc t ht]; omega) (fun j hj => by rw [hc j (by omega), h2 j hj]; rfl) hK
  rw [g2.tot, ← allR_rows g3]
  intro hz
  have : (allR rows q.rows.nr) = [] := by
    cases hA : allR rows q.rows.nr with
    | nil => rfl
    | cons _ _ => rw [hA] at hz; simp at hz; omega
  have hx : ∀ x, x ∉ allR rows q.rows.nr := by rw [this]; intro x hx; cases hx
  obtain ⟨x, hx2⟩ := List.exists_mem_of_ne_nil _ h1
  exact hx x (mem_allR.2 ⟨t, ht, hx2⟩)

theorem qLast_none (h : QV w d n nt T rows) (h0 : allR rows nt = []) (hK : K (.tuple #[.int .i64 0, .bool false]) w) : CallsV P 127 #[.pointer (some ⟨d.qb, 0, none⟩)] w K := by
  refine m_tierq_Queue_Last_ok ?_
  unfold m_tierq_Queue_Last
  exact qLen_ok h ⟨_, rfl, if_yes (by rw [h0]; rfl) hK⟩

theorem qLast_ok (h : QV w d n nt T rows) {t : Nat} (ht : t < nt) (h1 : rows t ≠ []) (h2 : ∀ j, t < j → rows j = []) (hK : K (.tuple #[.int .i64 (t : Int), .bool true]) w) : CallsV P 127 #[.pointer (some ⟨d.qb, 0, none⟩)] w K := by
  refine m_tierq_Queue_Last_ok ?_
  unfold m_tierq_Queue_Last
  have hlen : 0 < (rows t).length := List.length_pos_iff.2 h1
  refine qLen_ok h ⟨_, rfl, if_no ?_ (nn_some ?_)⟩
  · obtain ⟨x, hx2⟩ := List.exists_mem_of_ne_nil _ h1
    have hm := mem_allR.2 ⟨t, ht, hx2⟩
    have : 0 < (allR rows nt).length := List.length_pos_of_mem hm
    simp
    intro hc
    rw [hc] at this
    simp at this
  · simp only [addr_add, Nat.add_zero, Nat.zero_add]
    have hnt := h.total.2.2
    have hq4 : w.cell? ⟨d.qb, 4, none⟩ = some (.int .i64 (nt : Int)) := by
      obtain ⟨q, R, g1, g2, rfl, rfl, g3⟩ := h.ex
      rw [g1.q4, ← g1.n_tiers]
    refine ld_int hq4 ?_
    have ew : IntKind.wrap .i64 ((nt : Int) - 1) = ((nt - 1 : Nat) : Int) := by
      have : ((nt : Int) - 1) = ((nt - 1 : Nat) : Int) := by omega
      rw [this]; exact IntWalk.i64_in _ (by omega)
    rw [ew]
    refine loop_dec (σ := Nat) (fun j => j) (fun j => [.pointer (some ⟨d.qb, 0, none⟩), .int .i64 (j : Int)]) (fun j w' => w' = w ∧ t ≤ j ∧ j < nt) ?_ (s := nt - 1) ⟨rfl, by omega, by omega⟩
    rintro j w2 next ⟨rfl, hj1, hj2⟩ hnext
    unfold m_tierq_Queue_Last_l60
    simp only
    refine qCount_ok h ⟨_, rfl, ?_⟩
    have e0 : (if 0 ≤ (j : Int) ∧ (j : Int) < (nt : Int) then (((rows (j : Int).toNat).length : Nat) : Int) else 0) = (((rows j).length : Nat) : Int) := by rw [if_pos ⟨by omega, by omega⟩]; rfl
    rw [e0]
    by_cases e : j = t
    · subst e
      exact if_no (by simp; omega) (by simpa [m_tierq_Queue_Last_l60_o] using hK)
    · refine if_yes (by rw [h2 j (by omega)]; rfl) ?_
      have ew2 : IntKind.wrap .i64 ((j : Int) - 1) = ((j - 1 : Nat) : Int) := by
        have : ((j : Int) - 1) = ((j - 1 : Nat) : Int) := by omega
        rw [this]; exact IntWalk.i64_in _ (by omega)
      rw [ew2]
      exact hnext (j - 1) _ (by omega) ⟨rfl, by omega, by omega⟩

end Go.M

/- Objects in memory (printed by predgen.py). -/
set_option linter.all false
set_option linter.constructorNameAsVariable false
namespace Go.M
open Go Go.Eng Go.RowKit

structure CoreHM where
  n : Nat
  tiers : Int
  room : Int
  target : Int
  interval : Int
  high : Int
  low : Int
  dwell : Int
  horizon : Int
  setpoint : Int
  kp : Int
  ki : Int
  kd : Int
  climit : Int
  step : Int
  threads : Int
  ring : Int
  q : Option Addr
  psum : Int
  plast : Int
  plevel : Int
  lg : Option Addr
  phase : Int
  limit : Int
  clock : Int
  ticket : Int
  above : Nat → Bool
  first : Nat → Int
  dropping : Nat → Bool
  next : Nat → Int
  count : Nat → Int
  last : Nat → Int
  lifo : Nat → Bool
  since : Nat → Int
  turns : Nat → Int

structure CoreHAt (w : World) (pb tb : Nat) (s : CoreHM) : Prop where
  ne_pb_tb : pb ≠ tb
  h_tiers : w.cell? ⟨pb, 0, none⟩ = some (.int .i64 (s.tiers))
  h_room : w.cell? ⟨pb, 1, none⟩ = some (.int .i64 (s.room))
  h_target : w.cell? ⟨pb, 2, none⟩ = some (.int .i64 (s.target))
  h_interval : w.cell? ⟨pb, 3, none⟩ = some (.int .i64 (s.interval))
  h_high : w.cell? ⟨pb, 4, none⟩ = some (.int .i64 (s.high))
  h_low : w.cell? ⟨pb, 5, none⟩ = some (.int .i64 (s.low))
  h_dwell : w.cell? ⟨pb, 6, none⟩ = some (.int .i64 (s.dwell))
  h_horizon : w.cell? ⟨pb, 7, none⟩ = some (.int .i64 (s.horizon))
  h_setpoint : w.cell? ⟨pb, 8, none⟩ = some (.int .i64 (s.setpoint))
  h_kp : w.cell? ⟨pb, 9, none⟩ = some (.int .i64 (s.kp))
  h_ki : w.cell? ⟨pb, 10, none⟩ = some (.int .i64 (s.ki))
  h_kd : w.cell? ⟨pb, 11, none⟩ = some (.int .i64 (s.kd))
  h_climit : w.cell? ⟨pb, 12, none⟩ = some (.int .i64 (s.climit))
  h_step : w.cell? ⟨pb, 13, none⟩ = some (.int .i64 (s.step))
  h_threads : w.cell? ⟨pb, 14, none⟩ = some (.int .i64 (s.threads))
  h_ring : w.cell? ⟨pb, 15, none⟩ = some (.int .i64 (s.ring))
  h_q : w.cell? ⟨pb, 16, none⟩ = some (.pointer (s.q))
  h_trs : w.cell? ⟨pb, 17, none⟩ = some (.slice (some ⟨tb, 0, none⟩) s.n s.n)
  h_psum : w.cell? ⟨pb, 18, none⟩ = some (.int .i64 (s.psum))
  h_plast : w.cell? ⟨pb, 19, none⟩ = some (.int .i64 (s.plast))
  h_plevel : w.cell? ⟨pb, 20, none⟩ = some (.int .i64 (s.plevel))
  h_lg : w.cell? ⟨pb, 21, none⟩ = some (.pointer (s.lg))
  h_phase : w.cell? ⟨pb, 22, none⟩ = some (.int .u8 (s.phase))
  h_limit : w.cell? ⟨pb, 23, none⟩ = some (.int .i64 (s.limit))
  h_clock : w.cell? ⟨pb, 24, none⟩ = some (.int .i64 (s.clock))
  h_ticket : w.cell? ⟨pb, 25, none⟩ = some (.int .u64 (s.ticket))
  c_above : ∀ i, i < s.n → w.cell? ⟨tb, i * 9, none⟩ = some (.bool (s.above i))
  c_first : ∀ i, i < s.n → w.cell? ⟨tb, i * 9 + 1, none⟩ = some (.int .i64 (s.first i))
  c_dropping : ∀ i, i < s.n → w.cell? ⟨tb, i * 9 + 2, none⟩ = some (.bool (s.dropping i))
  c_next : ∀ i, i < s.n → w.cell? ⟨tb, i * 9 + 3, none⟩ = some (.int .i64 (s.next i))
  c_count : ∀ i, i < s.n → w.cell? ⟨tb, i * 9 + 4, none⟩ = some (.int .u64 (s.count i))
  c_last : ∀ i, i < s.n → w.cell? ⟨tb, i * 9 + 5, none⟩ = some (.int .u64 (s.last i))
  c_lifo : ∀ i, i < s.n → w.cell? ⟨tb, i * 9 + 6, none⟩ = some (.bool (s.lifo i))
  c_since : ∀ i, i < s.n → w.cell? ⟨tb, i * 9 + 7, none⟩ = some (.int .i64 (s.since i))
  c_turns : ∀ i, i < s.n → w.cell? ⟨tb, i * 9 + 8, none⟩ = some (.int .u64 (s.turns i))
  z_pb : ∀ i, w.frozen? ⟨pb, i, none⟩ = false
  z_tb : ∀ i, w.frozen? ⟨tb, i, none⟩ = false
  lt_pb : pb < w.heap.size
  lt_tb : tb < w.heap.size

theorem CoreHAt.only {S : List Nat} {w w' : World} {pb tb : Nat} {s : CoreHM} (h : CoreHAt w pb tb s) (ho : Only S w w') (kpb : pb ∉ S) (ktb : tb ∉ S) : CoreHAt w' pb tb s where
  ne_pb_tb := h.ne_pb_tb
  h_tiers := ho.cell h.h_tiers kpb
  h_room := ho.cell h.h_room kpb
  h_target := ho.cell h.h_target kpb
  h_interval := ho.cell h.h_interval kpb
  h_high := ho.cell h.h_high kpb
  h_low := ho.cell h.h_low kpb
  h_dwell := ho.cell h.h_dwell kpb
  h_horizon := ho.cell h.h_horizon kpb
  h_setpoint := ho.cell h.h_setpoint kpb
  h_kp := ho.cell h.h_kp kpb
  h_ki := ho.cell h.h_ki kpb
  h_kd := ho.cell h.h_kd kpb
  h_climit := ho.cell h.h_climit kpb
  h_step := ho.cell h.h_step kpb
  h_threads := ho.cell h.h_threads kpb
  h_ring := ho.cell h.h_ring kpb
  h_q := ho.cell h.h_q kpb
  h_trs := ho.cell h.h_trs kpb
  h_psum := ho.cell h.h_psum kpb
  h_plast := ho.cell h.h_plast kpb
  h_plevel := ho.cell h.h_plevel kpb
  h_lg := ho.cell h.h_lg kpb
  h_phase := ho.cell h.h_phase kpb
  h_limit := ho.cell h.h_limit kpb
  h_clock := ho.cell h.h_clock kpb
  h_ticket := ho.cell h.h_ticket kpb
  c_above := fun i hi => ho.cell (h.c_above i hi) ktb
  c_first := fun i hi => ho.cell (h.c_first i hi) ktb
  c_dropping := fun i hi => ho.cell (h.c_dropping i hi) ktb
  c_next := fun i hi => ho.cell (h.c_next i hi) ktb
  c_count := fun i hi => ho.cell (h.c_count i hi) ktb
  c_last := fun i hi => ho.cell (h.c_last i hi) ktb
  c_lifo := fun i hi => ho.cell (h.c_lifo i hi) ktb
  c_since := fun i hi => ho.cell (h.c_since i hi) ktb
  c_turns := fun i hi => ho.cell (h.c_turns i hi) ktb
  z_pb := fun i => (ho.frozen h.lt_pb kpb).trans (h.z_pb i)
  z_tb := fun i => (ho.frozen h.lt_tb ktb).trans (h.z_tb i)
  lt_pb := Nat.lt_of_lt_of_le h.lt_pb ho.size
  lt_tb := Nat.lt_of_lt_of_le h.lt_tb ho.size

theorem CoreHAt.set_ring {w : World} {pb tb : Nat} {s : CoreHM} (h : CoreHAt w pb tb s) (v : Int) : CoreHAt (w.setCell ⟨pb, 15, none⟩ (.int .i64 (v))) pb tb { s with ring := v } where
  ne_pb_tb := h.ne_pb_tb
  h_tiers := (cell_set_ne (.inr (by omega))).trans h.h_tiers
  h_room := (cell_set_ne (.inr (by omega))).trans h.h_room
  h_target := (cell_set_ne (.inr (by omega))).trans h.h_target
  h_interval := (cell_set_ne (.inr (by omega))).trans h.h_interval
  h_high := (cell_set_ne (.inr (by omega))).trans h.h_high
  h_low := (cell_set_ne (.inr (by omega))).trans h.h_low
  h_dwell := (cell_set_ne (.inr (by omega))).trans h.h_dwell
  h_horizon := (cell_set_ne (.inr (by omega))).trans h.h_horizon
  h_setpoint := (cell_set_ne (.inr (by omega))).trans h.h_setpoint
  h_kp := (cell_set_ne (.inr (by omega))).trans h.h_kp
  h_ki := (cell_set_ne (.inr (by omega))).trans h.h_ki
  h_kd := (cell_set_ne (.inr (by omega))).trans h.h_kd
  h_climit := (cell_set_ne (.inr (by omega))).trans h.h_climit
  h_step := (cell_set_ne (.inr (by omega))).trans h.h_step
  h_threads := (cell_set_ne (.inr (by omega))).trans h.h_threads
  h_ring := cell_set_eq h.h_ring
  h_q := (cell_set_ne (.inr (by omega))).trans h.h_q
  h_trs := (cell_set_ne (.inr (by omega))).trans h.h_trs
  h_psum := (cell_set_ne (.inr (by omega))).trans h.h_psum
  h_plast := (cell_set_ne (.inr (by omega))).trans h.h_plast
  h_plevel := (cell_set_ne (.inr (by omega))).trans h.h_plevel
  h_lg := (cell_set_ne (.inr (by omega))).trans h.h_lg
  h_phase := (cell_set_ne (.inr (by omega))).trans h.h_phase
  h_limit := (cell_set_ne (.inr (by omega))).trans h.h_limit
  h_clock := (cell_set_ne (.inr (by omega))).trans h.h_clock
  h_ticket := (cell_set_ne (.inr (by omega))).trans h.h_ticket
  c_above := fun j hj => (cell_set_ne (.inl (Ne.symm h.ne_pb_tb))).trans (h.c_above j hj)
  c_first := fun j hj => (cell_set_ne (.inl (Ne.symm h.ne_pb_tb))).trans (h.c_first j hj)
  c_dropping := fun j hj => (cell_set_ne (.inl (Ne.symm h.ne_pb_tb))).trans (h.c_dropping j hj)
  c_next := fun j hj => (cell_set_ne (.inl (Ne.symm h.ne_pb_tb))).trans (h.c_next j hj)
  c_count := fun j hj => (cell_set_ne (.inl (Ne.symm h.ne_pb_tb))).trans (h.c_count j hj)
  c_last := fun j hj => (cell_set_ne (.inl (Ne.symm h.ne_pb_tb))).trans (h.c_last j hj)
  c_lifo := fun j hj => (cell_set_ne (.inl (Ne.symm h.ne_pb_tb))).trans (h.c_lifo j hj)
  c_since := fun j hj => (cell_set_ne (.inl (Ne.symm h.ne_pb_tb))).trans (h.c_since j hj)
  c_turns := fun j hj => (cell_set_ne (.inl (Ne.symm h.ne_pb_tb))).trans (h.c_turns j hj)
  z_pb := fun j => (frozen_set _ _ _ _).trans (h.z_pb j)
  z_tb := fun j => (frozen_set _ _ _ _).trans (h.z_tb j)
  lt_pb := by rw [size_setCell]; exact h.lt_pb
  lt_tb := by rw [size_setCell]; exact h.lt_tb

theorem CoreHAt.set_clock {w : World} {pb tb : Nat} {s : CoreHM} (h : CoreHAt w pb tb s) (v : Int) : CoreHAt (w.setCell ⟨pb, 24, none⟩ (.int .i64 (v))) pb tb { s with clock := v } where
  ne_pb_tb := h.ne_pb_tb
  h_tiers := (cell_set_ne (.inr (by omega))).trans h.h_tiers
  h_room := (cell_set_ne (.inr (by omega))).trans h.h_room
  h_target := (cell_set_ne (.inr (by omega))).trans h.h_target
  h_interval := (cell_set_ne (.inr (by omega))).trans h.h_interval
  h_high := (cell_set_ne (.inr (by omega))).trans h.h_high
  h_low := (cell_set_ne (.inr (by omega))).trans h.h_low
  h_dwell := (cell_set_ne (.inr (by omega))).trans h.h_dwell
  h_horizon := (cell_set_ne (.inr (by omega))).trans h.h_horizon
  h_setpoint := (cell_set_ne (.inr (by omega))).trans h.h_setpoint
  h_kp := (cell_set_ne (.inr (by omega))).trans h.h_kp
  h_ki := (cell_set_ne (.inr (by omega))).trans h.h_ki
  h_kd := (cell_set_ne (.inr (by omega))).trans h.h_kd
  h_climit := (cell_set_ne (.inr (by omega))).trans h.h_climit
  h_step := (cell_set_ne (.inr (by omega))).trans h.h_step
  h_threads := (cell_set_ne (.inr (by omega))).trans h.h_threads
  h_ring := (cell_set_ne (.inr (by omega))).trans h.h_ring
  h_q := (cell_set_ne (.inr (by omega))).trans h.h_q
  h_trs := (cell_set_ne (.inr (by omega))).trans h.h_trs
  h_psum := (cell_set_ne (.inr (by omega))).trans h.h_psum
  h_plast := (cell_set_ne (.inr (by omega))).trans h.h_plast
  h_plevel := (cell_set_ne (.inr (by omega))).trans h.h_plevel
  h_lg := (cell_set_ne (.inr (by omega))).trans h.h_lg
  h_phase := (cell_set_ne (.inr (by omega))).trans h.h_phase
  h_limit := (cell_set_ne (.inr (by omega))).trans h.h_limit
  h_clock := cell_set_eq h.h_clock
  h_ticket := (cell_set_ne (.inr (by omega))).trans h.h_ticket
  c_above := fun j hj => (cell_set_ne (.inl (Ne.symm h.ne_pb_tb))).trans (h.c_above j hj)
  c_first := fun j hj => (cell_set_ne (.inl (Ne.symm h.ne_pb_tb))).trans (h.c_first j hj)
  c_dropping := fun j hj => (cell_set_ne (.inl (Ne.symm h.ne_pb_tb))).trans (h.c_dropping j hj)
  c_next := fun j hj => (cell_set_ne (.inl (Ne.symm h.ne_pb_tb))).trans (h.c_next j hj)
  c_count := fun j hj => (cell_set_ne (.inl (Ne.symm h.ne_pb_tb))).trans (h.c_count j hj)
  c_last := fun j hj => (cell_set_ne (.inl (Ne.symm h.ne_pb_tb))).trans (h.c_last j hj)
  c_lifo := fun j hj => (cell_set_ne (.inl (Ne.symm h.ne_pb_tb))).trans (h.c_lifo j hj)
  c_since := fun j hj => (cell_set_ne (.inl (Ne.symm h.ne_pb_tb))).trans (h.c_since j hj)
  c_turns := fun j hj => (cell_set_ne (.inl (Ne.symm h.ne_pb_tb))).trans (h.c_turns j hj)
  z_pb := fun j => (frozen_set _ _ _ _).trans (h.z_pb j)
  z_tb := fun j => (frozen_set _ _ _ _).trans (h.z_tb j)
  lt_pb := by rw [size_setCell]; exact h.lt_pb
  lt_tb := by rw [size_setCell]; exact h.lt_tb

theorem CoreHAt.set_ticket {w : World} {pb tb : Nat} {s : CoreHM} (h : CoreHAt w pb tb s) (v : Int) : CoreHAt (w.setCell ⟨pb, 25, none⟩ (.int .u64 (v))) pb tb { s with ticket := v } where
  ne_pb_tb := h.ne_pb_tb
  h_tiers := (cell_set_ne (.inr (by omega))).trans h.h_tiers
  h_room := (cell_set_ne (.inr (by omega))).trans h.h_room
  h_target := (cell_set_ne (.inr (by omega))).trans h.h_target
  h_interval := (cell_set_ne (.inr (by omega))).trans h.h_interval
  h_high := (cell_set_ne (.inr (by omega))).trans h.h_high
  h_low := (cell_set_ne (.inr (by omega))).trans h.h_low
  h_dwell := (cell_set_ne (.inr (by omega))).trans h.h_dwell
  h_horizon := (cell_set_ne (.inr (by omega))).trans h.h_horizon
  h_setpoint := (cell_set_ne (.inr (by omega))).trans h.h_setpoint
  h_kp := (cell_set_ne (.inr (by omega))).trans h.h_kp
  h_ki := (cell_set_ne (.inr (by omega))).trans h.h_ki
  h_kd := (cell_set_ne (.inr (by omega))).trans h.h_kd
  h_climit := (cell_set_ne (.inr (by omega))).trans h.h_climit
  h_step := (cell_set_ne (.inr (by omega))).trans h.h_step
  h_threads := (cell_set_ne (.inr (by omega))).trans h.h_threads
  h_ring := (cell_set_ne (.inr (by omega))).trans h.h_ring
  h_q := (cell_set_ne (.inr (by omega))).trans h.h_q
  h_trs := (cell_set_ne (.inr (by omega))).trans h.h_trs
  h_psum := (cell_set_ne (.inr (by omega))).trans h.h_psum
  h_plast := (cell_set_ne (.inr (by omega))).trans h.h_plast
  h_plevel := (cell_set_ne (.inr (by omega))).trans h.h_plevel
  h_lg := (cell_set_ne (.inr (by omega))).trans h.h_lg
  h_phase := (cell_set_ne (.inr (by omega))).trans h.h_phase
  h_limit := (cell_set_ne (.inr (by omega))).trans h.h_limit
  h_clock := (cell_set_ne (.inr (by omega))).trans h.h_clock
  h_ticket := cell_set_eq h.h_ticket
  c_above := fun j hj => (cell_set_ne (.inl (Ne.symm h.ne_pb_tb))).trans (h.c_above j hj)
  c_first := fun j hj => (cell_set_ne (.inl (Ne.symm h.ne_pb_tb))).trans (h.c_first j hj)
  c_dropping := fun j hj => (cell_set_ne (.inl (Ne.symm h.ne_pb_tb))).trans (h.c_dropping j hj)
  c_next := fun j hj => (cell_set_ne (.inl (Ne.symm h.ne_pb_tb))).trans (h.c_next j hj)
  c_count := fun j hj => (cell_set_ne (.inl (Ne.symm h.ne_pb_tb))).trans (h.c_count j hj)
  c_last := fun j hj => (cell_set_ne (.inl (Ne.symm h.ne_pb_tb))).trans (h.c_last j hj)
  c_lifo := fun j hj => (cell_set_ne (.inl (Ne.symm h.ne_pb_tb))).trans (h.c_lifo j hj)
  c_since := fun j hj => (cell_set_ne (.inl (Ne.symm h.ne_pb_tb))).trans (h.c_since j hj)
  c_turns := fun j hj => (cell_set_ne (.inl (Ne.symm h.ne_pb_tb))).trans (h.c_turns j hj)
  z_pb := fun j => (frozen_set _ _ _ _).trans (h.z_pb j)
  z_tb := fun j => (frozen_set _ _ _ _).trans (h.z_tb j)
  lt_pb := by rw [size_setCell]; exact h.lt_pb
  lt_tb := by rw [size_setCell]; exact h.lt_tb

theorem CoreHAt.set_next {w : World} {pb tb : Nat} {s : CoreHM} (h : CoreHAt w pb tb s) {i : Nat} (hi : i < s.n) (v : Int) : CoreHAt (w.setCell ⟨tb, i * 9 + 3, none⟩ (.int .i64 (v))) pb tb { s with next := upd s.next i v } where
  ne_pb_tb := h.ne_pb_tb
  h_tiers := (cell_set_ne (.inl h.ne_pb_tb)).trans h.h_tiers
  h_room := (cell_set_ne (.inl h.ne_pb_tb)).trans h.h_room
  h_target := (cell_set_ne (.inl h.ne_pb_tb)).trans h.h_target
  h_interval := (cell_set_ne (.inl h.ne_pb_tb)).trans h.h_interval
  h_high := (cell_set_ne (.inl h.ne_pb_tb)).trans h.h_high
  h_low := (cell_set_ne (.inl h.ne_pb_tb)).trans h.h_low
  h_dwell := (cell_set_ne (.inl h.ne_pb_tb)).trans h.h_dwell
  h_horizon := (cell_set_ne (.inl h.ne_pb_tb)).trans h.h_horizon
  h_setpoint := (cell_set_ne (.inl h.ne_pb_tb)).trans h.h_setpoint
  h_kp := (cell_set_ne (.inl h.ne_pb_tb)).trans h.h_kp
  h_ki := (cell_set_ne (.inl h.ne_pb_tb)).trans h.h_ki
  h_kd := (cell_set_ne (.inl h.ne_pb_tb)).trans h.h_kd
  h_climit := (cell_set_ne (.inl h.ne_pb_tb)).trans h.h_climit
  h_step := (cell_set_ne (.inl h.ne_pb_tb)).trans h.h_step
  h_threads := (cell_set_ne (.inl h.ne_pb_tb)).trans h.h_threads
  h_ring := (cell_set_ne (.inl h.ne_pb_tb)).trans h.h_ring
  h_q := (cell_set_ne (.inl h.ne_pb_tb)).trans h.h_q
  h_trs := (cell_set_ne (.inl h.ne_pb_tb)).trans h.h_trs
  h_psum := (cell_set_ne (.inl h.ne_pb_tb)).trans h.h_psum
  h_plast := (cell_set_ne (.inl h.ne_pb_tb)).trans h.h_plast
  h_plevel := (cell_set_ne (.inl h.ne_pb_tb)).trans h.h_plevel
  h_lg := (cell_set_ne (.inl h.ne_pb_tb)).trans h.h_lg
  h_phase := (cell_set_ne (.inl h.ne_pb_tb)).trans h.h_phase
  h_limit := (cell_set_ne (.inl h.ne_pb_tb)).trans h.h_limit
  h_clock := (cell_set_ne (.inl h.ne_pb_tb)).trans h.h_clock
  h_ticket := (cell_set_ne (.inl h.ne_pb_tb)).trans h.h_ticket
  c_above := fun j hj => (cell_set_ne (.inr (by omega))).trans (h.c_above j hj)
  c_first := fun j hj => (cell_set_ne (.inr (by omega))).trans (h.c_first j hj)
  c_dropping := fun j hj => (cell_set_ne (.inr (by omega))).trans (h.c_dropping j hj)
  c_next := fun j hj => by
    by_cases e : j = i
    · subst e; rw [cell_set_eq (h.c_next j hj)]; simp
    · exact (cell_set_ne (.inr (by omega))).trans ((h.c_next j hj).trans (by simp [upd_other e]))
  c_count := fun j hj => (cell_set_ne (.inr (by omega))).trans (h.c_count j hj)
  c_last := fun j hj => (cell_set_ne (.inr (by omega))).trans (h.c_last j hj)
  c_lifo := fun j hj => (cell_set_ne (.inr (by omega))).trans (h.c_lifo j hj)
  c_since := fun j hj => (cell_set_ne (.inr (by omega))).trans (h.c_since j hj)
  c_turns := fun j hj => (cell_set_ne (.inr (by omega))).trans (h.c_turns j hj)
  z_pb := fun j => (frozen_set _ _ _ _).trans (h.z_pb j)
  z_tb := fun j => (frozen_set _ _ _ _).trans (h.z_tb j)
  lt_pb := by rw [size_setCell]; exact h.lt_pb
  lt_tb := by rw [size_setCell]; exact h.lt_tb

theorem CoreHAt.set_count {w : World} {pb tb : Nat} {s : CoreHM} (h : CoreHAt w pb tb s) {i : Nat} (hi : i < s.n) (v : Int) : CoreHAt (w.setCell ⟨tb, i * 9 + 4, none⟩ (.int .u64 (v))) pb tb { s with count := upd s.count i v } where
  ne_pb_tb := h.ne_pb_tb
  h_tiers := (cell_set_ne (.inl h.ne_pb_tb)).trans h.h_tiers
  h_room := (cell_set_ne (.inl h.ne_pb_tb)).trans h.h_room
  h_target := (cell_set_ne (.inl h.ne_pb_tb)).trans h.h_target
  h_interval := (cell_set_ne (.inl h.ne_pb_tb)).trans h.h_interval
  h_high := (cell_set_ne (.inl h.ne_pb_tb)).trans h.h_high
  h_low := (cell_set_ne (.inl h.ne_pb_tb)).trans h.h_low
  h_dwell := (cell_set_ne (.inl h.ne_pb_tb)).trans h.h_dwell
  h_horizon := (cell_set_ne (.inl h.ne_pb_tb)).trans h.h_horizon
  h_setpoint := (cell_set_ne (.inl h.ne_pb_tb)).trans h.h_setpoint
  h_kp := (cell_set_ne (.inl h.ne_pb_tb)).trans h.h_kp
  h_ki := (cell_set_ne (.inl h.ne_pb_tb)).trans h.h_ki
  h_kd := (cell_set_ne (.inl h.ne_pb_tb)).trans h.h_kd
  h_climit := (cell_set_ne (.inl h.ne_pb_tb)).trans h.h_climit
  h_step := (cell_set_ne (.inl h.ne_pb_tb)).trans h.h_step
  h_threads := (cell_set_ne (.inl h.ne_pb_tb)).trans h.h_threads
  h_ring := (cell_set_ne (.inl h.ne_pb_tb)).trans h.h_ring
  h_q := (cell_set_ne (.inl h.ne_pb_tb)).trans h.h_q
  h_trs := (cell_set_ne (.inl h.ne_pb_tb)).trans h.h_trs
  h_psum := (cell_set_ne (.inl h.ne_pb_tb)).trans h.h_psum
  h_plast := (cell_set_ne (.inl h.ne_pb_tb)).trans h.h_plast
  h_plevel := (cell_set_ne (.inl h.ne_pb_tb)).trans h.h_plevel
  h_lg := (cell_set_ne (.inl h.ne_pb_tb)).trans h.h_lg
  h_phase := (cell_set_ne (.inl h.ne_pb_tb)).trans h.h_phase
  h_limit := (cell_set_ne (.inl h.ne_pb_tb)).trans h.h_limit
  h_clock := (cell_set_ne (.inl h.ne_pb_tb)).trans h.h_clock
  h_ticket := (cell_set_ne (.inl h.ne_pb_tb)).trans h.h_ticket
  c_above := fun j hj => (cell_set_ne (.inr (by omega))).trans (h.c_above j hj)
  c_first := fun j hj => (cell_set_ne (.inr (by omega))).trans (h.c_first j hj)
  c_dropping := fun j hj => (cell_set_ne (.inr (by omega))).trans (h.c_dropping j hj)
  c_next := fun j hj => (cell_set_ne (.inr (by omega))).trans (h.c_next j hj)
  c_count := fun j hj => by
    by_cases e : j = i
    · subst e; rw [cell_set_eq (h.c_count j hj)]; simp
    · exact (cell_set_ne (.inr (by omega))).trans ((h.c_count j hj).trans (by simp [upd_other e]))
  c_last := fun j hj => (cell_set_ne (.inr (by omega))).trans (h.c_last j hj)
  c_lifo := fun j hj => (cell_set_ne (.inr (by omega))).trans (h.c_lifo j hj)
  c_since := fun j hj => (cell_set_ne (.inr (by omega))).trans (h.c_since j hj)
  c_turns := fun j hj => (cell_set_ne (.inr (by omega))).trans (h.c_turns j hj)
  z_pb := fun j => (frozen_set _ _ _ _).trans (h.z_pb j)
  z_tb := fun j => (frozen_set _ _ _ _).trans (h.z_tb j)
  lt_pb := by rw [size_setCell]; exact h.lt_pb
  lt_tb := by rw [size_setCell]; exact h.lt_tb

theorem CoreHAt.set_turns {w : World} {pb tb : Nat} {s : CoreHM} (h : CoreHAt w pb tb s) {i : Nat} (hi : i < s.n) (v : Int) : CoreHAt (w.setCell ⟨tb, i * 9 + 8, none⟩ (.int .u64 (v))) pb tb { s with turns := upd s.turns i v } where
  ne_pb_tb := h.ne_pb_tb
  h_tiers := (cell_set_ne (.inl h.ne_pb_tb)).trans h.h_tiers
  h_room := (cell_set_ne (.inl h.ne_pb_tb)).trans h.h_room
  h_target := (cell_set_ne (.inl h.ne_pb_tb)).trans h.h_target
  h_interval := (cell_set_ne (.inl h.ne_pb_tb)).trans h.h_interval
  h_high := (cell_set_ne (.inl h.ne_pb_tb)).trans h.h_high
  h_low := (cell_set_ne (.inl h.ne_pb_tb)).trans h.h_low
  h_dwell := (cell_set_ne (.inl h.ne_pb_tb)).trans h.h_dwell
  h_horizon := (cell_set_ne (.inl h.ne_pb_tb)).trans h.h_horizon
  h_setpoint := (cell_set_ne (.inl h.ne_pb_tb)).trans h.h_setpoint
  h_kp := (cell_set_ne (.inl h.ne_pb_tb)).trans h.h_kp
  h_ki := (cell_set_ne (.inl h.ne_pb_tb)).trans h.h_ki
  h_kd := (cell_set_ne (.inl h.ne_pb_tb)).trans h.h_kd
  h_climit := (cell_set_ne (.inl h.ne_pb_tb)).trans h.h_climit
  h_step := (cell_set_ne (.inl h.ne_pb_tb)).trans h.h_step
  h_threads := (cell_set_ne (.inl h.ne_pb_tb)).trans h.h_threads
  h_ring := (cell_set_ne (.inl h.ne_pb_tb)).trans h.h_ring
  h_q := (cell_set_ne (.inl h.ne_pb_tb)).trans h.h_q
  h_trs := (cell_set_ne (.inl h.ne_pb_tb)).trans h.h_trs
  h_psum := (cell_set_ne (.inl h.ne_pb_tb)).trans h.h_psum
  h_plast := (cell_set_ne (.inl h.ne_pb_tb)).trans h.h_plast
  h_plevel := (cell_set_ne (.inl h.ne_pb_tb)).trans h.h_plevel
  h_lg := (cell_set_ne (.inl h.ne_pb_tb)).trans h.h_lg
  h_phase := (cell_set_ne (.inl h.ne_pb_tb)).trans h.h_phase
  h_limit := (cell_set_ne (.inl h.ne_pb_tb)).trans h.h_limit
  h_clock := (cell_set_ne (.inl h.ne_pb_tb)).trans h.h_clock
  h_ticket := (cell_set_ne (.inl h.ne_pb_tb)).trans h.h_ticket
  c_above := fun j hj => (cell_set_ne (.inr (by omega))).trans (h.c_above j hj)
  c_first := fun j hj => (cell_set_ne (.inr (by omega))).trans (h.c_first j hj)
  c_dropping := fun j hj => (cell_set_ne (.inr (by omega))).trans (h.c_dropping j hj)
  c_next := fun j hj => (cell_set_ne (.inr (by omega))).trans (h.c_next j hj)
  c_count := fun j hj => (cell_set_ne (.inr (by omega))).trans (h.c_count j hj)
  c_last := fun j hj => (cell_set_ne (.inr (by omega))).trans (h.c_last j hj)
  c_lifo := fun j hj => (cell_set_ne (.inr (by omega))).trans (h.c_lifo j hj)
  c_since := fun j hj => (cell_set_ne (.inr (by omega))).trans (h.c_since j hj)
  c_turns := fun j hj => by
    by_cases e : j = i
    · subst e; rw [cell_set_eq (h.c_turns j hj)]; simp
    · exact (cell_set_ne (.inr (by omega))).trans ((h.c_turns j hj).trans (by simp [upd_other e]))
  z_pb := fun j => (frozen_set _ _ _ _).trans (h.z_pb j)
  z_tb := fun j => (frozen_set _ _ _ _).trans (h.z_tb j)
  lt_pb := by rw [size_setCell]; exact h.lt_pb
  lt_tb := by rw [size_setCell]; exact h.lt_tb

theorem CoreHAt.drew {w : World} {pb tb : Nat} {s : CoreHM} (h : CoreHAt w pb tb s) : CoreHAt w.drew pb tb s := h.only (S := []) (Only.drew w) (by simp) (by simp)

structure FrontHM where
  n : Nat
  core : Option Addr
  ring : Option Addr
  lock : Option Addr
  clock : Int
  next : Nat → Int
  kind : Nat → Int
  tier : Nat → Int
  cohort : Nat → Int
  num : Nat → Int
  box : Nat → Option Addr
  act : Nat → Option Addr
  left : Nat → Int
  whose : Nat → Int
  answer : Nat → Int
  ticket : Nat → Int
  rtier : Nat → Int
  rcohort : Nat → Int
  sojourn : Nat → Int

structure FrontHAt (w : World) (pb tb : Nat) (s : FrontHM) : Prop where
  ne_pb_tb : pb ≠ tb
  h_core : w.cell? ⟨pb, 0, none⟩ = some (.pointer (s.core))
  h_ring : w.cell? ⟨pb, 1, none⟩ = some (.pointer (s.ring))
  h_lock : w.cell? ⟨pb, 2, none⟩ = some (.pointer (s.lock))
  h_ths : w.cell? ⟨pb, 3, none⟩ = some (.slice (some ⟨tb, 0, none⟩) s.n s.n)
  h_clock : w.cell? ⟨pb, 4, none⟩ = some (.int .i64 (s.clock))
  c_next : ∀ i, i < s.n → w.cell? ⟨tb, i * 14, none⟩ = some (.int .i64 (s.next i))
  c_kind : ∀ i, i < s.n → w.cell? ⟨tb, i * 14 + 1, none⟩ = some (.int .u8 (s.kind i))
  c_tier : ∀ i, i < s.n → w.cell? ⟨tb, i * 14 + 2, none⟩ = some (.int .i64 (s.tier i))
  c_cohort : ∀ i, i < s.n → w.cell? ⟨tb, i * 14 + 3, none⟩ = some (.int .i64 (s.cohort i))
  c_num : ∀ i, i < s.n → w.cell? ⟨tb, i * 14 + 4, none⟩ = some (.int .i64 (s.num i))
  c_box : ∀ i, i < s.n → w.cell? ⟨tb, i * 14 + 5, none⟩ = some (.pointer (s.box i))
  c_act : ∀ i, i < s.n → w.cell? ⟨tb, i * 14 + 6, none⟩ = some (.pointer (s.act i))
  c_left : ∀ i, i < s.n → w.cell? ⟨tb, i * 14 + 7, none⟩ = some (.int .i64 (s.left i))
  c_whose : ∀ i, i < s.n → w.cell? ⟨tb, i * 14 + 8, none⟩ = some (.int .i64 (s.whose i))
  c_answer : ∀ i, i < s.n → w.cell? ⟨tb, i * 14 + 9, none⟩ = some (.int .u8 (s.answer i))
  c_ticket : ∀ i, i < s.n → w.cell? ⟨tb, i * 14 + 10, none⟩ = some (.int .u64 (s.ticket i))
  c_rtier : ∀ i, i < s.n → w.cell? ⟨tb, i * 14 + 11, none⟩ = some (.int .i64 (s.rtier i))
  c_rcohort : ∀ i, i < s.n → w.cell? ⟨tb, i * 14 + 12, none⟩ = some (.int .i64 (s.rcohort i))
  c_sojourn : ∀ i, i < s.n → w.cell? ⟨tb, i * 14 + 13, none⟩ = some (.int .i64 (s.sojourn i))
  z_pb : ∀ i, w.frozen? ⟨pb, i, none⟩ = false
  z_tb : ∀ i, w.frozen? ⟨tb, i, none⟩ = false
  lt_pb : pb < w.heap.size
  lt_tb : tb < w.heap.size

theorem FrontHAt.only {S : List Nat} {w w' : World} {pb tb : Nat} {s : FrontHM} (h : FrontHAt w pb tb s) (ho : Only S w w') (kpb : pb ∉ S) (ktb : tb ∉ S) : FrontHAt w' pb tb s where
  ne_pb_tb := h.ne_pb_tb
  h_core := ho.cell h.h_core kpb
  h_ring := ho.cell h.h_ring kpb
  h_lock := ho.cell h.h_lock kpb
  h_ths := ho.cell h.h_ths kpb
  h_clock := ho.cell h.h_clock kpb
  c_next := fun i hi => ho.cell (h.c_next i hi) ktb
  c_kind := fun i hi => ho.cell (h.c_kind i hi) ktb
  c_tier := fun i hi => ho.cell (h.c_tier i hi) ktb
  c_cohort := fun i hi => ho.cell (h.c_cohort i hi) ktb
  c_num := fun i hi => ho.cell (h.c_num i hi) ktb
  c_box := fun i hi => ho.cell (h.c_box i hi) ktb
  c_act := fun i hi => ho.cell (h.c_act i hi) ktb
  c_left := fun i hi => ho.cell (h.c_left i hi) ktb
  c_whose := fun i hi => ho.cell (h.c_whose i hi) ktb
  c_answer := fun i hi => ho.cell (h.c_answer i hi) ktb
  c_ticket := fun i hi => ho.cell (h.c_ticket i hi) ktb
  c_rtier := fun i hi => ho.cell (h.c_rtier i hi) ktb
  c_rcohort := fun i hi => ho.cell (h.c_rcohort i hi) ktb
  c_sojourn := fun i hi => ho.cell (h.c_sojourn i hi) ktb
  z_pb := fun i => (ho.frozen h.lt_pb kpb).trans (h.z_pb i)
  z_tb := fun i => (ho.frozen h.lt_tb ktb).trans (h.z_tb i)
  lt_pb := Nat.lt_of_lt_of_le h.lt_pb ho.size
  lt_tb := Nat.lt_of_lt_of_le h.lt_tb ho.size

theorem FrontHAt.set_ring {w : World} {pb tb : Nat} {s : FrontHM} (h : FrontHAt w pb tb s) (v : Option Addr) : FrontHAt (w.setCell ⟨pb, 1, none⟩ (.pointer (v))) pb tb { s with ring := v } where
  ne_pb_tb := h.ne_pb_tb
  h_core := (cell_set_ne (.inr (by omega))).trans h.h_core
  h_ring := cell_set_eq h.h_ring
  h_lock := (cell_set_ne (.inr (by omega))).trans h.h_lock
  h_ths := (cell_set_ne (.inr (by omega))).trans h.h_ths
  h_clock := (cell_set_ne (.inr (by omega))).trans h.h_clock
  c_next := fun j hj => (cell_set_ne (.inl (Ne.symm h.ne_pb_tb))).trans (h.c_next j hj)
  c_kind := fun j hj => (cell_set_ne (.inl (Ne.symm h.ne_pb_tb))).trans (h.c_kind j hj)
  c_tier := fun j hj => (cell_set_ne (.inl (Ne.symm h.ne_pb_tb))).trans (h.c_tier j hj)
  c_cohort := fun j hj => (cell_set_ne (.inl (Ne.symm h.ne_pb_tb))).trans (h.c_cohort j hj)
  c_num := fun j hj => (cell_set_ne (.inl (Ne.symm h.ne_pb_tb))).trans (h.c_num j hj)
  c_box := fun j hj => (cell_set_ne (.inl (Ne.symm h.ne_pb_tb))).trans (h.c_box j hj)
  c_act := fun j hj => (cell_set_ne (.inl (Ne.symm h.ne_pb_tb))).trans (h.c_act j hj)
  c_left := fun j hj => (cell_set_ne (.inl (Ne.symm h.ne_pb_tb))).trans (h.c_left j hj)
  c_whose := fun j hj => (cell_set_ne (.inl (Ne.symm h.ne_pb_tb))).trans (h.c_whose j hj)
  c_answer := fun j hj => (cell_set_ne (.inl (Ne.symm h.ne_pb_tb))).trans (h.c_answer j hj)
  c_ticket := fun j hj => (cell_set_ne (.inl (Ne.symm h.ne_pb_tb))).trans (h.c_ticket j hj)
  c_rtier := fun j hj => (cell_set_ne (.inl (Ne.symm h.ne_pb_tb))).trans (h.c_rtier j hj)
  c_rcohort := fun j hj => (cell_set_ne (.inl (Ne.symm h.ne_pb_tb))).trans (h.c_rcohort j hj)
  c_sojourn := fun j hj => (cell_set_ne (.inl (Ne.symm h.ne_pb_tb))).trans (h.c_sojourn j hj)
  z_pb := fun j => (frozen_set _ _ _ _).trans (h.z_pb j)
  z_tb := fun j => (frozen_set _ _ _ _).trans (h.z_tb j)
  lt_pb := by rw [size_setCell]; exact h.lt_pb
  lt_tb := by rw [size_setCell]; exact h.lt_tb

theorem FrontHAt.set_clock {w : World} {pb tb : Nat} {s : FrontHM} (h : FrontHAt w pb tb s) (v : Int) : FrontHAt (w.setCell ⟨pb, 4, none⟩ (.int .i64 (v))) pb tb { s with clock := v } where
  ne_pb_tb := h.ne_pb_tb
  h_core := (cell_set_ne (.inr (by omega))).trans h.h_core
  h_ring := (cell_set_ne (.inr (by omega))).trans h.h_ring
  h_lock := (cell_set_ne (.inr (by omega))).trans h.h_lock
  h_ths := (cell_set_ne (.inr (by omega))).trans h.h_ths
  h_clock := cell_set_eq h.h_clock
  c_next := fun j hj => (cell_set_ne (.inl (Ne.symm h.ne_pb_tb))).trans (h.c_next j hj)
  c_kind := fun j hj => (cell_set_ne (.inl (Ne.symm h.ne_pb_tb))).trans (h.c_kind j hj)
  c_tier := fun j hj => (cell_set_ne (.inl (Ne.symm h.ne_pb_tb))).trans (h.c_tier j hj)
  c_cohort := fun j hj => (cell_set_ne (.inl (Ne.symm h.ne_pb_tb))).trans (h.c_cohort j hj)
  c_num := fun j hj => (cell_set_ne (.inl (Ne.symm h.ne_pb_tb))).trans (h.c_num j hj)
  c_box := fun j hj => (cell_set_ne (.inl (Ne.symm h.ne_pb_tb))).trans (h.c_box j hj)
  c_act := fun j hj => (cell_set_ne (.inl (Ne.symm h.ne_pb_tb))).trans (h.c_act j hj)
  c_left := fun j hj => (cell_set_ne (.inl (Ne.symm h.ne_pb_tb))).trans (h.c_left j hj)
  c_whose := fun j hj => (cell_set_ne (.inl (Ne.symm h.ne_pb_tb))).trans (h.c_whose j hj)
  c_answer := fun j hj => (cell_set_ne (.inl (Ne.symm h.ne_pb_tb))).trans (h.c_answer j hj)
  c_ticket := fun j hj => (cell_set_ne (.inl (Ne.symm h.ne_pb_tb))).trans (h.c_ticket j hj)
  c_rtier := fun j hj => (cell_set_ne (.inl (Ne.symm h.ne_pb_tb))).trans (h.c_rtier j hj)
  c_rcohort := fun j hj => (cell_set_ne (.inl (Ne.symm h.ne_pb_tb))).trans (h.c_rcohort j hj)
  c_sojourn := fun j hj => (cell_set_ne (.inl (Ne.symm h.ne_pb_tb))).trans (h.c_sojourn j hj)
  z_pb := fun j => (frozen_set _ _ _ _).trans (h.z_pb j)
  z_tb := fun j => (frozen_set _ _ _ _).trans (h.z_tb j)
  lt_pb := by rw [size_setCell]; exact h.lt_pb
  lt_tb := by rw [size_setCell]; exact h.lt_tb

theorem FrontHAt.set_next {w : World} {pb tb : Nat} {s : FrontHM} (h : FrontHAt w pb tb s) {i : Nat} (hi : i < s.n) (v : Int) : FrontHAt (w.setCell ⟨tb, i * 14, none⟩ (.int .i64 (v))) pb tb { s with next := upd s.next i v } where
  ne_pb_tb := h.ne_pb_tb
  h_core := (cell_set_ne (.inl h.ne_pb_tb)).trans h.h_core
  h_ring := (cell_set_ne (.inl h.ne_pb_tb)).trans h.h_ring
  h_lock := (cell_set_ne (.inl h.ne_pb_tb)).trans h.h_lock
  h_ths := (cell_set_ne (.inl h.ne_pb_tb)).trans h.h_ths
  h_clock := (cell_set_ne (.inl h.ne_pb_tb)).trans h.h_clock
  c_next := fun j hj => by
    by_cases e : j = i
    · subst e; rw [cell_set_eq (h.c_next j hj)]; simp
    · exact (cell_set_ne (.inr (by omega))).trans ((h.c_next j hj).trans (by simp [upd_other e]))
  c_kind := fun j hj => (cell_set_ne (.inr (by omega))).trans (h.c_kind j hj)
  c_tier := fun j hj => (cell_set_ne (.inr (by omega))).trans (h.c_tier j hj)
  c_cohort := fun j hj => (cell_set_ne (.inr (by omega))).trans (h.c_cohort j hj)
  c_num := fun j hj => (cell_set_ne (.inr (by omega))).trans (h.c_num j hj)
  c_box := fun j hj => (cell_set_ne (.inr (by omega))).trans (h.c_box j hj)
  c_act := fun j hj => (cell_set_ne (.inr (by omega))).trans (h.c_act j hj)
  c_left := fun j hj => (cell_set_ne (.inr (by omega))).trans (h.c_left j hj)
  c_whose := fun j hj => (cell_set_ne (.inr (by omega))).trans (h.c_whose j hj)
  c_answer := fun j hj => (cell_set_ne (.inr (by omega))).trans (h.c_answer j hj)
  c_ticket := fun j hj => (cell_set_ne (.inr (by omega))).trans (h.c_ticket j hj)
  c_rtier := fun j hj => (cell_set_ne (.inr (by omega))).trans (h.c_rtier j hj)
  c_rcohort := fun j hj => (cell_set_ne (.inr (by omega))).trans (h.c_rcohort j hj)
  c_sojourn := fun j hj => (cell_set_ne (.inr (by omega))).trans (h.c_sojourn j hj)
  z_pb := fun j => (frozen_set _ _ _ _).trans (h.z_pb j)
  z_tb := fun j => (frozen_set _ _ _ _).trans (h.z_tb j)
  lt_pb := by rw [size_setCell]; exact h.lt_pb
  lt_tb := by rw [size_setCell]; exact h.lt_tb

theorem FrontHAt.set_kind {w : World} {pb tb : Nat} {s : FrontHM} (h : FrontHAt w pb tb s) {i : Nat} (hi : i < s.n) (v : Int) : FrontHAt (w.setCell ⟨tb, i * 14 + 1, none⟩ (.int .u8 (v))) pb tb { s with kind := upd s.kind i v } where
  ne_pb_tb := h.ne_pb_tb
  h_core := (cell_set_ne (.inl h.ne_pb_tb)).trans h.h_core
  h_ring := (cell_set_ne (.inl h.ne_pb_tb)).trans h.h_ring
  h_lock := (cell_set_ne (.inl h.ne_pb_tb)).trans h.h_lock
  h_ths := (cell_set_ne (.inl h.ne_pb_tb)).trans h.h_ths
  h_clock := (cell_set_ne (.inl h.ne_pb_tb)).trans h.h_clock
  c_next := fun j hj => (cell_set_ne (.inr (by omega))).trans (h.c_next j hj)
  c_kind := fun j hj => by
    by_cases e : j = i
    · subst e; rw [cell_set_eq (h.c_kind j hj)]; simp
    · exact (cell_set_ne (.inr (by omega))).trans ((h.c_kind j hj).trans (by simp [upd_other e]))
  c_tier := fun j hj => (cell_set_ne (.inr (by omega))).trans (h.c_tier j hj)
  c_cohort := fun j hj => (cell_set_ne (.inr (by omega))).trans (h.c_cohort j hj)
  c_num := fun j hj => (cell_set_ne (.inr (by omega))).trans (h.c_num j hj)
  c_box := fun j hj => (cell_set_ne (.inr (by omega))).trans (h.c_box j hj)
  c_act := fun j hj => (cell_set_ne (.inr (by omega))).trans (h.c_act j hj)
  c_left := fun j hj => (cell_set_ne (.inr (by omega))).trans (h.c_left j hj)
  c_whose := fun j hj => (cell_set_ne (.inr (by omega))).trans (h.c_whose j hj)
  c_answer := fun j hj => (cell_set_ne (.inr (by omega))).trans (h.c_answer j hj)
  c_ticket := fun j hj => (cell_set_ne (.inr (by omega))).trans (h.c_ticket j hj)
  c_rtier := fun j hj => (cell_set_ne (.inr (by omega))).trans (h.c_rtier j hj)
  c_rcohort := fun j hj => (cell_set_ne (.inr (by omega))).trans (h.c_rcohort j hj)
  c_sojourn := fun j hj => (cell_set_ne (.inr (by omega))).trans (h.c_sojourn j hj)
  z_pb := fun j => (frozen_set _ _ _ _).trans (h.z_pb j)
  z_tb := fun j => (frozen_set _ _ _ _).trans (h.z_tb j)
  lt_pb := by rw [size_setCell]; exact h.lt_pb
  lt_tb := by rw [size_setCell]; exact h.lt_tb

theorem FrontHAt.set_tier {w : World} {pb tb : Nat} {s : FrontHM} (h : FrontHAt w pb tb s) {i : Nat} (hi : i < s.n) (v : Int) : FrontHAt (w.setCell ⟨tb, i * 14 + 2, none⟩ (.int .i64 (v))) pb tb { s with tier := upd s.tier i v } where
  ne_pb_tb := h.ne_pb_tb
  h_core := (cell_set_ne (.inl h.ne_pb_tb)).trans h.h_core
  h_ring := (cell_set_ne (.inl h.ne_pb_tb)).trans h.h_ring
  h_lock := (cell_set_ne (.inl h.ne_pb_tb)).trans h.h_lock
  h_ths := (cell_set_ne (.inl h.ne_pb_tb)).trans h.h_ths
  h_clock := (cell_set_ne (.inl h.ne_pb_tb)).trans h.h_clock
  c_next := fun j hj => (cell_set_ne (.inr (by omega))).trans (h.c_next j hj)
  c_kind := fun j hj => (cell_set_ne (.inr (by omega))).trans (h.c_kind j hj)
  c_tier := fun j hj => by
    by_cases e : j = i
    · subst e; rw [cell_set_eq (h.c_tier j hj)]; simp
    · exact (cell_set_ne (.inr (by omega))).trans ((h.c_tier j hj).trans (by simp [upd_other e]))
  c_cohort := fun j hj => (cell_set_ne (.inr (by omega))).trans (h.c_cohort j hj)
  c_num := fun j hj => (cell_set_ne (.inr (by omega))).trans (h.c_num j hj)
  c_box := fun j hj => (cell_set_ne (.inr (by omega))).trans (h.c_box j hj)
  c_act := fun j hj => (cell_set_ne (.inr (by omega))).trans (h.c_act j hj)
  c_left := fun j hj => (cell_set_ne (.inr (by omega))).trans (h.c_left j hj)
  c_whose := fun j hj => (cell_set_ne (.inr (by omega))).trans (h.c_whose j hj)
  c_answer := fun j hj => (cell_set_ne (.inr (by omega))).trans (h.c_answer j hj)
  c_ticket := fun j hj => (cell_set_ne (.inr (by omega))).trans (h.c_ticket j hj)
  c_rtier := fun j hj => (cell_set_ne (.inr (by omega))).trans (h.c_rtier j hj)
  c_rcohort := fun j hj => (cell_set_ne (.inr (by omega))).trans (h.c_rcohort j hj)
  c_sojourn := fun j hj => (cell_set_ne (.inr (by omega))).trans (h.c_sojourn j hj)
  z_pb := fun j => (frozen_set _ _ _ _).trans (h.z_pb j)
  z_tb := fun j => (frozen_set _ _ _ _).trans (h.z_tb j)
  lt_pb := by rw [size_setCell]; exact h.lt_pb
  lt_tb := by rw [size_setCell]; exact h.lt_tb

theorem FrontHAt.set_cohort {w : World} {pb tb : Nat} {s : FrontHM} (h : FrontHAt w pb tb s) {i : Nat} (hi : i < s.n) (v : Int) : FrontHAt (w.setCell ⟨tb, i * 14 + 3, none⟩ (.int .i64 (v))) pb tb { s with cohort := upd s.cohort i v } where
  ne_pb_tb := h.ne_pb_tb
  h_core := (cell_set_ne (.inl h.ne_pb_tb)).trans h.h_core
  h_ring := (cell_set_ne (.inl h.ne_pb_tb)).trans h.h_ring
  h_lock := (cell_set_ne (.inl h.ne_pb_tb)).trans h.h_lock
  h_ths := (cell_set_ne (.inl h.ne_pb_tb)).trans h.h_ths
  h_clock := (cell_set_ne (.inl h.ne_pb_tb)).trans h.h_clock
  c_next := fun j hj => (cell_set_ne (.inr (by omega))).trans (h.c_next j hj)
  c_kind := fun j hj => (cell_set_ne (.inr (by omega))).trans (h.c_kind j hj)
  c_tier := fun j hj => (cell_set_ne (.inr (by omega))).trans (h.c_tier j hj)
  c_cohort := fun j hj => by
    by_cases e : j = i
    · subst e; rw [cell_set_eq (h.c_cohort j hj)]; simp
    · exact (cell_set_ne (.inr (by omega))).trans ((h.c_cohort j hj).trans (by simp [upd_other e]))
  c_num := fun j hj => (cell_set_ne (.inr (by omega))).trans (h.c_num j hj)
  c_box := fun j hj => (cell_set_ne (.inr (by omega))).trans (h.c_box j hj)
  c_act := fun j hj => (cell_set_ne (.inr (by omega))).trans (h.c_act j hj)
  c_left := fun j hj => (cell_set_ne (.inr (by omega))).trans (h.c_left j hj)
  c_whose := fun j hj => (cell_set_ne (.inr (by omega))).trans (h.c_whose j hj)
  c_answer := fun j hj => (cell_set_ne (.inr (by omega))).trans (h.c_answer j hj)
  c_ticket := fun j hj => (cell_set_ne (.inr (by omega))).trans (h.c_ticket j hj)
  c_rtier := fun j hj => (cell_set_ne (.inr (by omega))).trans (h.c_rtier j hj)
  c_rcohort := fun j hj => (cell_set_ne (.inr (by omega))).trans (h.c_rcohort j hj)
  c_sojourn := fun j hj => (cell_set_ne (.inr (by omega))).trans (h.c_sojourn j hj)
  z_pb := fun j => (frozen_set _ _ _ _).trans (h.z_pb j)
  z_tb := fun j => (frozen_set _ _ _ _).trans (h.z_tb j)
  lt_pb := by rw [size_setCell]; exact h.lt_pb
  lt_tb := by rw [size_setCell]; exact h.lt_tb

theorem FrontHAt.set_num {w : World} {pb tb : Nat} {s : FrontHM} (h : FrontHAt w pb tb s) {i : Nat} (hi : i < s.n) (v : Int) : FrontHAt (w.setCell ⟨tb, i * 14 + 4, none⟩ (.int .i64 (v))) pb tb { s with num := upd s.num i v } where
  ne_pb_tb := h.ne_pb_tb
  h_core := (cell_set_ne (.inl h.ne_pb_tb)).trans h.h_core
  h_ring := (cell_set_ne (.inl h.ne_pb_tb)).trans h.h_ring
  h_lock := (cell_set_ne (.inl h.ne_pb_tb)).trans h.h_lock
  h_ths := (cell_set_ne (.inl h.ne_pb_tb)).trans h.h_ths
  h_clock := (cell_set_ne (.inl h.ne_pb_tb)).trans h.h_clock
  c_next := fun j hj => (cell_set_ne (.inr (by omega))).trans (h.c_next j hj)
  c_kind := fun j hj => (cell_set_ne (.inr (by omega))).trans (h.c_kind j hj)
  c_tier := fun j hj => (cell_set_ne (.inr (by omega))).trans (h.c_tier j hj)
  c_cohort := fun j hj => (cell_set_ne (.inr (by omega))).trans (h.c_cohort j hj)
  c_num := fun j hj => by
    by_cases e : j = i
    · subst e; rw [cell_set_eq (h.c_num j hj)]; simp
    · exact (cell_set_ne (.inr (by omega))).trans ((h.c_num j hj).trans (by simp [upd_other e]))
  c_box := fun j hj => (cell_set_ne (.inr (by omega))).trans (h.c_box j hj)
  c_act := fun j hj => (cell_set_ne (.inr (by omega))).trans (h.c_act j hj)
  c_left := fun j hj => (cell_set_ne (.inr (by omega))).trans (h.c_left j hj)
  c_whose := fun j hj => (cell_set_ne (.inr (by omega))).trans (h.c_whose j hj)
  c_answer := fun j hj => (cell_set_ne (.inr (by omega))).trans (h.c_answer j hj)
  c_ticket := fun j hj => (cell_set_ne (.inr (by omega))).trans (h.c_ticket j hj)
  c_rtier := fun j hj => (cell_set_ne (.inr (by omega))).trans (h.c_rtier j hj)
  c_rcohort := fun j hj => (cell_set_ne (.inr (by omega))).trans (h.c_rcohort j hj)
  c_sojourn := fun j hj => (cell_set_ne (.inr (by omega))).trans (h.c_sojourn j hj)
  z_pb := fun j => (frozen_set _ _ _ _).trans (h.z_pb j)
  z_tb := fun j => (frozen_set _ _ _ _).trans (h.z_tb j)
  lt_pb := by rw [size_setCell]; exact h.lt_pb
  lt_tb := by rw [size_setCell]; exact h.lt_tb

theorem FrontHAt.set_box {w : World} {pb tb : Nat} {s : FrontHM} (h : FrontHAt w pb tb s) {i : Nat} (hi : i < s.n) (v : Option Addr) : FrontHAt (w.setCell ⟨tb, i * 14 + 5, none⟩ (.pointer (v))) pb tb { s with box := upd s.box i v } where
  ne_pb_tb := h.ne_pb_tb
  h_core := (cell_set_ne (.inl h.ne_pb_tb)).trans h.h_core
  h_ring := (cell_set_ne (.inl h.ne_pb_tb)).trans h.h_ring
  h_lock := (cell_set_ne (.inl h.ne_pb_tb)).trans h.h_lock
  h_ths := (cell_set_ne (.inl h.ne_pb_tb)).trans h.h_ths
  h_clock := (cell_set_ne (.inl h.ne_pb_tb)).trans h.h_clock
  c_next := fun j hj => (cell_set_ne (.inr (by omega))).trans (h.c_next j hj)
  c_kind := fun j hj => (cell_set_ne (.inr (by omega))).trans (h.c_kind j hj)
  c_tier := fun j hj => (cell_set_ne (.inr (by omega))).trans (h.c_tier j hj)
  c_cohort := fun j hj => (cell_set_ne (.inr (by omega))).trans (h.c_cohort j hj)
  c_num := fun j hj => (cell_set_ne (.inr (by omega))).trans (h.c_num j hj)
  c_box := fun j hj => by
    by_cases e : j = i
    · subst e; rw [cell_set_eq (h.c_box j hj)]; simp
    · exact (cell_set_ne (.inr (by omega))).trans ((h.c_box j hj).trans (by simp [upd_other e]))
  c_act := fun j hj => (cell_set_ne (.inr (by omega))).trans (h.c_act j hj)
  c_left := fun j hj => (cell_set_ne (.inr (by omega))).trans (h.c_left j hj)
  c_whose := fun j hj => (cell_set_ne (.inr (by omega))).trans (h.c_whose j hj)
  c_answer := fun j hj => (cell_set_ne (.inr (by omega))).trans (h.c_answer j hj)
  c_ticket := fun j hj => (cell_set_ne (.inr (by omega))).trans (h.c_ticket j hj)
  c_rtier := fun j hj => (cell_set_ne (.inr (by omega))).trans (h.c_rtier j hj)
  c_rcohort := fun j hj => (cell_set_ne (.inr (by omega))).trans (h.c_rcohort j hj)
  c_sojourn := fun j hj => (cell_set_ne (.inr (by omega))).trans (h.c_sojourn j hj)
  z_pb := fun j => (frozen_set _ _ _ _).trans (h.z_pb j)
  z_tb := fun j => (frozen_set _ _ _ _).trans (h.z_tb j)
  lt_pb := by rw [size_setCell]; exact h.lt_pb
  lt_tb := by rw [size_setCell]; exact h.lt_tb

theorem FrontHAt.set_act {w : World} {pb tb : Nat} {s : FrontHM} (h : FrontHAt w pb tb s) {i : Nat} (hi : i < s.n) (v : Option Addr) : FrontHAt (w.setCell ⟨tb, i * 14 + 6, none⟩ (.pointer (v))) pb tb { s with act := upd s.act i v } where
  ne_pb_tb := h.ne_pb_tb
  h_core := (cell_set_ne (.inl h.ne_pb_tb)).trans h.h_core
  h_ring := (cell_set_ne (.inl h.ne_pb_tb)).trans h.h_ring
  h_lock := (cell_set_ne (.inl h.ne_pb_tb)).trans h.h_lock
  h_ths := (cell_set_ne (.inl h.ne_pb_tb)).trans h.h_ths
  h_clock := (cell_set_ne (.inl h.ne_pb_tb)).trans h.h_clock
  c_next := fun j hj => (cell_set_ne (.inr (by omega))).trans (h.c_next j hj)
  c_kind := fun j hj => (cell_set_ne (.inr (by omega))).trans (h.c_kind j hj)
  c_tier := fun j hj => (cell_set_ne (.inr (by omega))).trans (h.c_tier j hj)
  c_cohort := fun j hj => (cell_set_ne (.inr (by omega))).trans (h.c_cohort j hj)
  c_num := fun j hj => (cell_set_ne (.inr (by omega))).trans (h.c_num j hj)
  c_box := fun j hj => (cell_set_ne (.inr (by omega))).trans (h.c_box j hj)
  c_act := fun j hj => by
    by_cases e : j = i
    · subst e; rw [cell_set_eq (h.c_act j hj)]; simp
    · exact (cell_set_ne (.inr (by omega))).trans ((h.c_act j hj).trans (by simp [upd_other e]))
  c_left := fun j hj => (cell_set_ne (.inr (by omega))).trans (h.c_left j hj)
  c_whose := fun j hj => (cell_set_ne (.inr (by omega))).trans (h.c_whose j hj)
  c_answer := fun j hj => (cell_set_ne (.inr (by omega))).trans (h.c_answer j hj)
  c_ticket := fun j hj => (cell_set_ne (.inr (by omega))).trans (h.c_ticket j hj)
  c_rtier := fun j hj => (cell_set_ne (.inr (by omega))).trans (h.c_rtier j hj)
  c_rcohort := fun j hj => (cell_set_ne (.inr (by omega))).trans (h.c_rcohort j hj)
  c_sojourn := fun j hj => (cell_set_ne (.inr (by omega))).trans (h.c_sojourn j hj)
  z_pb := fun j => (frozen_set _ _ _ _).trans (h.z_pb j)
  z_tb := fun j => (frozen_set _ _ _ _).trans (h.z_tb j)
  lt_pb := by rw [size_setCell]; exact h.lt_pb
  lt_tb := by rw [size_setCell]; exact h.lt_tb

theorem FrontHAt.set_left {w : World} {pb tb : Nat} {s : FrontHM} (h : FrontHAt w pb tb s) {i : Nat} (hi : i < s.n) (v : Int) : FrontHAt (w.setCell ⟨tb, i * 14 + 7, none⟩ (.int .i64 (v))) pb tb { s with left := upd s.left i v } where
  ne_pb_tb := h.ne_pb_tb
  h_core := (cell_set_ne (.inl h.ne_pb_tb)).trans h.h_core
  h_ring := (cell_set_ne (.inl h.ne_pb_tb)).trans h.h_ring
  h_lock := (cell_set_ne (.inl h.ne_pb_tb)).trans h.h_lock
  h_ths := (cell_set_ne (.inl h.ne_pb_tb)).trans h.h_ths
  h_clock := (cell_set_ne (.inl h.ne_pb_tb)).trans h.h_clock
  c_next := fun j hj => (cell_set_ne (.inr (by omega))).trans (h.c_next j hj)
  c_kind := fun j hj => (cell_set_ne (.inr (by omega))).trans (h.c_kind j hj)
  c_tier := fun j hj => (cell_set_ne (.inr (by omega))).trans (h.c_tier j hj)
  c_cohort := fun j hj => (cell_set_ne (.inr (by omega))).trans (h.c_cohort j hj)
  c_num := fun j hj => (cell_set_ne (.inr (by omega))).trans (h.c_num j hj)
  c_box := fun j hj => (cell_set_ne (.inr (by omega))).trans (h.c_box j hj)
  c_act := fun j hj => (cell_set_ne (.inr (by omega))).trans (h.c_act j hj)
  c_left := fun j hj => by
    by_cases e : j = i
    · subst e; rw [cell_set_eq (h.c_left j hj)]; simp
    · exact (cell_set_ne (.inr (by omega))).trans ((h.c_left j hj).trans (by simp [upd_other e]))
  c_whose := fun j hj => (cell_set_ne (.inr (by omega))).trans (h.c_whose j hj)
  c_answer := fun j hj => (cell_set_ne (.inr (by omega))).trans (h.c_answer j hj)
  c_ticket := fun j hj => (cell_set_ne (.inr (by omega))).trans (h.c_ticket j hj)
  c_rtier := fun j hj => (cell_set_ne (.inr (by omega))).trans (h.c_rtier j hj)
  c_rcohort := fun j hj => (cell_set_ne (.inr (by omega))).trans (h.c_rcohort j hj)
  c_sojourn := fun j hj => (cell_set_ne (.inr (by omega))).trans (h.c_sojourn j hj)
  z_pb := fun j => (frozen_set _ _ _ _).trans (h.z_pb j)
  z_tb := fun j => (frozen_set _ _ _ _).trans (h.z_tb j)
  lt_pb := by rw [size_setCell]; exact h.lt_pb
  lt_tb := by rw [size_setCell]; exact h.lt_tb

theorem FrontHAt.set_whose {w : World} {pb tb : Nat} {s : FrontHM} (h : FrontHAt w pb tb s) {i : Nat} (hi : i < s.n) (v : Int) : FrontHAt (w.setCell ⟨tb, i * 14 + 8, none⟩ (.int .i64 (v))) pb tb { s with whose := upd s.whose i v } where
  ne_pb_tb := h.ne_pb_tb
  h_core := (cell_set_ne (.inl h.ne_pb_tb)).trans h.h_core
  h_ring := (cell_set_ne (.inl h.ne_pb_tb)).trans h.h_ring
  h_lock := (cell_set_ne (.inl h.ne_pb_tb)).trans h.h_lock
  h_ths := (cell_set_ne (.inl h.ne_pb_tb)).trans h.h_ths
  h_clock := (cell_set_ne (.inl h.ne_pb_tb)).trans h.h_clock
  c_next := fun j hj => (cell_set_ne (.inr (by omega))).trans (h.c_next j hj)
  c_kind := fun j hj => (cell_set_ne (.inr (by omega))).trans (h.c_kind j hj)
  c_tier := fun j hj => (cell_set_ne (.inr (by omega))).trans (h.c_tier j hj)
  c_cohort := fun j hj => (cell_set_ne (.inr (by omega))).trans (h.c_cohort j hj)
  c_num := fun j hj => (cell_set_ne (.inr (by omega))).trans (h.c_num j hj)
  c_box := fun j hj => (cell_set_ne (.inr (by omega))).trans (h.c_box j hj)
  c_act := fun j hj => (cell_set_ne (.inr (by omega))).trans (h.c_act j hj)
  c_left := fun j hj => (cell_set_ne (.inr (by omega))).trans (h.c_left j hj)
  c_whose := fun j hj => by
    by_cases e : j = i
    · subst e; rw [cell_set_eq (h.c_whose j hj)]; simp
    · exact (cell_set_ne (.inr (by omega))).trans ((h.c_whose j hj).trans (by simp [upd_other e]))
  c_answer := fun j hj => (cell_set_ne (.inr (by omega))).trans (h.c_answer j hj)
  c_ticket := fun j hj => (cell_set_ne (.inr (by omega))).trans (h.c_ticket j hj)
  c_rtier := fun j hj => (cell_set_ne (.inr (by omega))).trans (h.c_rtier j hj)
  c_rcohort := fun j hj => (cell_set_ne (.inr (by omega))).trans (h.c_rcohort j hj)
  c_sojourn := fun j hj => (cell_set_ne (.inr (by omega))).trans (h.c_sojourn j hj)
  z_pb := fun j => (frozen_set _ _ _ _).trans (h.z_pb j)
  z_tb := fun j => (frozen_set _ _ _ _).trans (h.z_tb j)
  lt_pb := by rw [size_setCell]; exact h.lt_pb
  lt_tb := by rw [size_setCell]; exact h.lt_tb

theorem FrontHAt.set_answer {w : World} {pb tb : Nat} {s : FrontHM} (h : FrontHAt w pb tb s) {i : Nat} (hi : i < s.n) (v : Int) : FrontHAt (w.setCell ⟨tb, i * 14 + 9, none⟩ (.int .u8 (v))) pb tb { s with answer := upd s.answer i v } where
  ne_pb_tb := h.ne_pb_tb
  h_core := (cell_set_ne (.inl h.ne_pb_tb)).trans h.h_core
  h_ring := (cell_set_ne (.inl h.ne_pb_tb)).trans h.h_ring
  h_lock := (cell_set_ne (.inl h.ne_pb_tb)).trans h.h_lock
  h_ths := (cell_set_ne (.inl h.ne_pb_tb)).trans h.h_ths
  h_clock := (cell_set_ne (.inl h.ne_pb_tb)).trans h.h_clock
  c_next := fun j hj => (cell_set_ne (.inr (by omega))).trans (h.c_next j hj)
  c_kind := fun j hj => (cell_set_ne (.inr (by omega))).trans (h.c_kind j hj)
  c_tier := fun j hj => (cell_set_ne (.inr (by omega))).trans (h.c_tier j hj)
  c_cohort := fun j hj => (cell_set_ne (.inr (by omega))).trans (h.c_cohort j hj)
  c_num := fun j hj => (cell_set_ne (.inr (by omega))).trans (h.c_num j hj)
  c_box := fun j hj => (cell_set_ne (.inr (by omega))).trans (h.c_box j hj)
  c_act := fun j hj => (cell_set_ne (.inr (by omega))).trans (h.c_act j hj)
  c_left := fun j hj => (cell_set_ne (.inr (by omega))).trans (h.c_left j hj)
  c_whose := fun j hj => (cell_set_ne (.inr (by omega))).trans (h.c_whose j hj)
  c_answer := fun j hj => by
    by_cases e : j = i
    · subst e; rw [cell_set_eq (h.c_answer j hj)]; simp
    · exact (cell_set_ne (.inr (by omega))).trans ((h.c_answer j hj).trans (by simp [upd_other e]))
  c_ticket := fun j hj => (cell_set_ne (.inr (by omega))).trans (h.c_ticket j hj)
  c_rtier := fun j hj => (cell_set_ne (.inr (by omega))).trans (h.c_rtier j hj)
  c_rcohort := fun j hj => (cell_set_ne (.inr (by omega))).trans (h.c_rcohort j hj)
  c_sojourn := fun j hj => (cell_set_ne (.inr (by omega))).trans (h.c_sojourn j hj)
  z_pb := fun j => (frozen_set _ _ _ _).trans (h.z_pb j)
  z_tb := fun j => (frozen_set _ _ _ _).trans (h.z_tb j)
  lt_pb := by rw [size_setCell]; exact h.lt_pb
  lt_tb := by rw [size_setCell]; exact h.lt_tb

theorem FrontHAt.set_ticket {w : World} {pb tb : Nat} {s : FrontHM} (h : FrontHAt w pb tb s) {i : Nat} (hi : i < s.n) (v : Int) : FrontHAt (w.setCell ⟨tb, i * 14 + 10, none⟩ (.int .u64 (v))) pb tb { s with ticket := upd s.ticket i v } where
  ne_pb_tb := h.ne_pb_tb
  h_core := (cell_set_ne (.inl h.ne_pb_tb)).trans h.h_core
  h_ring := (cell_set_ne (.inl h.ne_pb_tb)).trans h.h_ring
  h_lock := (cell_set_ne (.inl h.ne_pb_tb)).trans h.h_lock
  h_ths := (cell_set_ne (.inl h.ne_pb_tb)).trans h.h_ths
  h_clock := (cell_set_ne (.inl h.ne_pb_tb)).trans h.h_clock
  c_next := fun j hj => (cell_set_ne (.inr (by omega))).trans (h.c_next j hj)
  c_kind := fun j hj => (cell_set_ne (.inr (by omega))).trans (h.c_kind j hj)
  c_tier := fun j hj => (cell_set_ne (.inr (by omega))).trans (h.c_tier j hj)
  c_cohort := fun j hj => (cell_set_ne (.inr (by omega))).trans (h.c_cohort j hj)
  c_num := fun j hj => (cell_set_ne (.inr (by omega))).trans (h.c_num j hj)
  c_box := fun j hj => (cell_set_ne (.inr (by omega))).trans (h.c_box j hj)
  c_act := fun j hj => (cell_set_ne (.inr (by omega))).trans (h.c_act j hj)
  c_left := fun j hj => (cell_set_ne (.inr (by omega))).trans (h.c_left j hj)
  c_whose := fun j hj => (cell_set_ne (.inr (by omega))).trans (h.c_whose j hj)
  c_answer := fun j hj => (cell_set_ne (.inr (by omega))).trans (h.c_answer j hj)
  c_ticket := fun j hj => by
    by_cases e : j = i
    · subst e; rw [cell_set_eq (h.c_ticket j hj)]; simp
    · exact (cell_set_ne (.inr (by omega))).trans ((h.c_ticket j hj).trans (by simp [upd_other e]))
  c_rtier := fun j hj => (cell_set_ne (.inr (by omega))).trans (h.c_rtier j hj)
  c_rcohort := fun j hj => (cell_set_ne (.inr (by omega))).trans (h.c_rcohort j hj)
  c_sojourn := fun j hj => (cell_set_ne (.inr (by omega))).trans (h.c_sojourn j hj)
  z_pb := fun j => (frozen_set _ _ _ _).trans (h.z_pb j)
  z_tb := fun j => (frozen_set _ _ _ _).trans (h.z_tb j)
  lt_pb := by rw [size_setCell]; exact h.lt_pb
  lt_tb := by rw [size_setCell]; exact h.lt_tb

theorem FrontHAt.set_rtier {w : World} {pb tb : Nat} {s : FrontHM} (h : FrontHAt w pb tb s) {i : Nat} (hi : i < s.n) (v : Int) : FrontHAt (w.setCell ⟨tb, i * 14 + 11, none⟩ (.int .i64 (v))) pb tb { s with rtier := upd s.rtier i v } where
  ne_pb_tb := h.ne_pb_tb
  h_core := (cell_set_ne (.inl h.ne_pb_tb)).trans h.h_core
  h_ring := (cell_set_ne (.inl h.ne_pb_tb)).trans h.h_ring
  h_lock := (cell_set_ne (.inl h.ne_pb_tb)).trans h.h_lock
  h_ths := (cell_set_ne (.inl h.ne_pb_tb)).trans h.h_ths
  h_clock := (cell_set_ne (.inl h.ne_pb_tb)).trans h.h_clock
  c_next := fun j hj => (cell_set_ne (.inr (by omega))).trans (h.c_next j hj)
  c_kind := fun j hj => (cell_set_ne (.inr (by omega))).trans (h.c_kind j hj)
  c_tier := fun j hj => (cell_set_ne (.inr (by omega))).trans (h.c_tier j hj)
  c_cohort := fun j hj => (cell_set_ne (.inr (by omega))).trans (h.c_cohort j hj)
  c_num := fun j hj => (cell_set_ne (.inr (by omega))).trans (h.c_num j hj)
  c_box := fun j hj => (cell_set_ne (.inr (by omega))).trans (h.c_box j hj)
  c_act := fun j hj => (cell_set_ne (.inr (by omega))).trans (h.c_act j hj)
  c_left := fun j hj => (cell_set_ne (.inr (by omega))).trans (h.c_left j hj)
  c_whose := fun j hj => (cell_set_ne (.inr (by omega))).trans (h.c_whose j hj)
  c_answer := fun j hj => (cell_set_ne (.inr (by omega))).trans (h.c_answer j hj)
  c_ticket := fun j hj => (cell_set_ne (.inr (by omega))).trans (h.c_ticket j hj)
  c_rtier := fun j hj => by
    by_cases e : j = i
    · subst e; rw [cell_set_eq (h.c_rtier j hj)]; simp
    · exact (cell_set_ne (.inr (by omega))).trans ((h.c_rtier j hj).trans (by simp [upd_other e]))
  c_rcohort := fun j hj => (cell_set_ne (.inr (by omega))).trans (h.c_rcohort j hj)
  c_sojourn := fun j hj => (cell_set_ne (.inr (by omega))).trans (h.c_sojourn j hj)
  z_pb := fun j => (frozen_set _ _ _ _).trans (h.z_pb j)
  z_tb := fun j => (frozen_set _ _ _ _).trans (h.z_tb j)
  lt_pb := by rw [size_setCell]; exact h.lt_pb
  lt_tb := by rw [size_setCell]; exact h.lt_tb

theorem FrontHAt.set_rcohort {w : World} {pb tb : Nat} {s : FrontHM} (h : FrontHAt w pb tb s) {i : Nat} (hi : i < s.n) (v : Int) : FrontHAt (w.setCell ⟨tb, i * 14 + 12, none⟩ (.int .i64 (v))) pb tb { s with rcohort := upd s.rcohort i v } where
  ne_pb_tb := h.ne_pb_tb
  h_core := (cell_set_ne (.inl h.ne_pb_tb)).trans h.h_core
  h_ring := (cell_set_ne (.inl h.ne_pb_tb)).trans h.h_ring
  h_lock := (cell_set_ne (.inl h.ne_pb_tb)).trans h.h_lock
  h_ths := (cell_set_ne (.inl h.ne_pb_tb)).trans h.h_ths
  h_clock := (cell_set_ne (.inl h.ne_pb_tb)).trans h.h_clock
  c_next := fun j hj => (cell_set_ne (.inr (by omega))).trans (h.c_next j hj)
  c_kind := fun j hj => (cell_set_ne (.inr (by omega))).trans (h.c_kind j hj)
  c_tier := fun j hj => (cell_set_ne (.inr (by omega))).trans (h.c_tier j hj)
  c_cohort := fun j hj => (cell_set_ne (.inr (by omega))).trans (h.c_cohort j hj)
  c_num := fun j hj => (cell_set_ne (.inr (by omega))).trans (h.c_num j hj)
  c_box := fun j hj => (cell_set_ne (.inr (by omega))).trans (h.c_box j hj)
  c_act := fun j hj => (cell_set_ne (.inr (by omega))).trans (h.c_act j hj)
  c_left := fun j hj => (cell_set_ne (.inr (by omega))).trans (h.c_left j hj)
  c_whose := fun j hj => (cell_set_ne (.inr (by omega))).trans (h.c_whose j hj)
  c_answer := fun j hj => (cell_set_ne (.inr (by omega))).trans (h.c_answer j hj)
  c_ticket := fun j hj => (cell_set_ne (.inr (by omega))).trans (h.c_ticket j hj)
  c_rtier := fun j hj => (cell_set_ne (.inr (by omega))).trans (h.c_rtier j hj)
  c_rcohort := fun j hj => by
    by_cases e : j = i
    · subst e; rw [cell_set_eq (h.c_rcohort j hj)]; simp
    · exact (cell_set_ne (.inr (by omega))).trans ((h.c_rcohort j hj).trans (by simp [upd_other e]))
  c_sojourn := fun j hj => (cell_set_ne (.inr (by omega))).trans (h.c_sojourn j hj)
  z_pb := fun j => (frozen_set _ _ _ _).trans (h.z_pb j)
  z_tb := fun j => (frozen_set _ _ _ _).trans (h.z_tb j)
  lt_pb := by rw [size_setCell]; exact h.lt_pb
  lt_tb := by rw [size_setCell]; exact h.lt_tb

theorem FrontHAt.set_sojourn {w : World} {pb tb : Nat} {s : FrontHM} (h : FrontHAt w pb tb s) {i : Nat} (hi : i < s.n) (v : Int) : FrontHAt (w.setCell ⟨tb, i * 14 + 13, none⟩ (.int .i64 (v))) pb tb { s with sojourn := upd s.sojourn i v } where
  ne_pb_tb := h.ne_pb_tb
  h_core := (cell_set_ne (.inl h.ne_pb_tb)).trans h.h_core
  h_ring := (cell_set_ne (.inl h.ne_pb_tb)).trans h.h_ring
  h_lock := (cell_set_ne (.inl h.ne_pb_tb)).trans h.h_lock
  h_ths := (cell_set_ne (.inl h.ne_pb_tb)).trans h.h_ths
  h_clock := (cell_set_ne (.inl h.ne_pb_tb)).trans h.h_clock
  c_next := fun j hj => (cell_set_ne (.inr (by omega))).trans (h.c_next j hj)
  c_kind := fun j hj => (cell_set_ne (.inr (by omega))).trans (h.c_kind j hj)
  c_tier := fun j hj => (cell_set_ne (.inr (by omega))).trans (h.c_tier j hj)
  c_cohort := fun j hj => (cell_set_ne (.inr (by omega))).trans (h.c_cohort j hj)
  c_num := fun j hj => (cell_set_ne (.inr (by omega))).trans (h.c_num j hj)
  c_box := fun j hj => (cell_set_ne (.inr (by omega))).trans (h.c_box j hj)
  c_act := fun j hj => (cell_set_ne (.inr (by omega))).trans (h.c_act j hj)
  c_left := fun j hj => (cell_set_ne (.inr (by omega))).trans (h.c_left j hj)
  c_whose := fun j hj => (cell_set_ne (.inr (by omega))).trans (h.c_whose j hj)
  c_answer := fun j hj => (cell_set_ne (.inr (by omega))).trans (h.c_answer j hj)
  c_ticket := fun j hj => (cell_set_ne (.inr (by omega))).trans (h.c_ticket j hj)
  c_rtier := fun j hj => (cell_set_ne (.inr (by omega))).trans (h.c_rtier j hj)
  c_rcohort := fun j hj => (cell_set_ne (.inr (by omega))).trans (h.c_rcohort j hj)
  c_sojourn := fun j hj => by
    by_cases e : j = i
    · subst e; rw [cell_set_eq (h.c_sojourn j hj)]; simp
    · exact (cell_set_ne (.inr (by omega))).trans ((h.c_sojourn j hj).trans (by simp [upd_other e]))
  z_pb := fun j => (frozen_set _ _ _ _).trans (h.z_pb j)
  z_tb := fun j => (frozen_set _ _ _ _).trans (h.z_tb j)
  lt_pb := by rw [size_setCell]; exact h.lt_pb
  lt_tb := by rw [size_setCell]; exact h.lt_tb

theorem FrontHAt.drew {w : World} {pb tb : Nat} {s : FrontHM} (h : FrontHAt w pb tb s) : FrontHAt w.drew pb tb s := h.only (S := []) (Only.drew w) (by simp) (by simp)

end Go.M
