/- Proofs about the front of the overload controller, part 17: CM C29 C10 C21 Lay0 C27 C30. -/
import Derived.Test.YtdodcfbmpmapmaaGreatW04
import Derived.Test.YtdodcfbmpmapmaaGreatW15
import Derived.Test.YtdodcfbmpmapmaaGreatW06
import Derived.Test.YtdodcfbmpmapmaaGreatW14
import Derived.Test.YtdodcfbmpmapmaaGreatW09
import Derived.Test.YtdodcfbmpmapmaaGreatW16
import Derived.Shelf.Small.Bits
import Derived.Shelf.Strconv.Itoa0
import Derived.Shelf.Bits.Mul64
import Derived.Shelf.SlSortCmp.WholeK
import Derived.Shelf.SlGeneric
import Derived.Ground.SlsfProg
import Derived.Test.YtdodcfbmpmapmaaGreatProg
import Derived.Shelf.SlSortCmp.NoneTotal
set_option linter.all false
set_option linter.constructorNameAsVariable false
set_option linter.unusedVariables false
/- The core as plain functions on lists: no program in sight. -/
set_option linter.all false
set_option linter.constructorNameAsVariable false
namespace Go.M
open Go Go.Eng

/-! ### The three controllers -/
structure Cd where
  above : Bool
  first : Int
  dropping : Bool
  next : Int
  count : Int
  last : Int
  deriving DecidableEq
structure Md where
  lifo : Bool
  since : Int
  turns : Int
  deriving DecidableEq
structure Pd where
  sum : Int
  last : Int
  level : Int
  deriving DecidableEq

/-- bit by bit, from the highest one on -/
def rootL (n : Nat) : Nat → Nat → Nat
  | 0, r => r
  | k + 1, r => rootL n k (if (r + 2 ^ k) * (r + 2 ^ k) ≤ n then r + 2 ^ k else r)
def rootM (n : Nat) : Nat := rootL n 64 0
/-- an interval by a root -/
def lawM (interval n : Int) : Int := if interval < 0 then 0 else (rootM (interval.toNat * interval.toNat / max n.toNat 1) : Nat)

def cdNote (s : Cd) (target interval now soj backlog : Int) : Cd × Bool :=
  let above := decide (target ≤ soj) && decide (1 < backlog)
  let first := if above = false then 0 else if s.above = false then sat (now + interval) else s.first
  ({ s with above := above, first := first }, above && s.above && decide (first ≤ now))
def cdEmpty (s : Cd) : Cd := { s with above := false, dropping := false, first := 0 }
def cdDue (s : Cd) (now : Int) : Cd × Int :=
  if now < s.next then (s, 0) else (if s.count < 18446744073709551615 then { s with count := s.count + 1 } else s, 1)
def cdEnter (s : Cd) (interval now : Int) : Cd :=
  let d := IntKind.wrap .u64 (s.count - s.last)
  let c := if 1 < d ∧ d ≤ 9223372036854775808 ∧ sat (now - s.next) < sat (16 * interval) then d else 1
  { s with dropping := true, count := c, next := sat (now + lawM interval c), last := c }
def cdLook (s : Cd) (target interval now soj backlog : Int) : Cd × Int :=
  let s1 := cdNote s target interval now soj backlog
  if s1.2 = false then ({ s1.1 with dropping := false }, 0)
  else if s1.1.dropping = true then cdDue s1.1 now
  else (cdEnter s1.1 interval now, 2)
def cdMore (s : Cd) (target interval now soj backlog : Int) : Cd × Int :=
  let s1 := cdNote s target interval now soj backlog
  if s1.2 = false then ({ s1.1 with dropping := false }, 0)
  else cdDue { s1.1 with next := sat (s1.1.next + lawM interval s1.1.count) } now

def mdTurn (s : Md) (high low dwell now oldest backlog : Int) : Md :=
  let lifo := decide (0 < backlog) && decide ((if s.lifo = true then low else high) ≤ oldest)
  if lifo = s.lifo ∨ (s.turns ≠ 0 ∧ sat (now - s.since) < dwell) then s else ⟨lifo, now, IntKind.wrap .u64 (s.turns + 1)⟩

def timesM (a b : Int) : Int := sat (a * b / 4294967296)
def pdSample (s : Pd) (c : Cf) (u : Int) : Pd :=
  let d := sat (u - c.setpoint)
  let most := IntKind.wrap .i64 (c.tiers * 128)
  if ¬ c.setpoint < u then ⟨max (timesM s.sum 2147483648) 0, d, clampM (sat (s.level - 1)) 0 most⟩
  else
    let sum := clampM (sat (s.sum + timesM c.ki d)) 0 c.limit
    let o := sat (sat (timesM c.kp d + sum) + timesM c.kd (sat (d - s.last)))
    ⟨sum, d, clampM (min (max s.level (o / 4294967296)) (sat (s.level + c.step))) 0 most⟩

/-! ### The core -/
structure CoreS where
  cf : Cf
  nt : Nat
  rows : Nat → List Rq
  cd : Nat → Cd
  md : Nat → Md
  pd : Pd
  log : List Oc
  phase : Int
  limit : Int
  clock : Int
  ticket : Int

namespace CoreS
variable (s : CoreS)

def all : List Rq := allR s.rows s.nt
def len : Nat := s.all.length
def stayed (r : Rq) : Int := sat (s.clock - r.arrived)
def leave (r : Rq) (why : Int) : CoreS :=
  { s with rows := fun t => (s.rows t).filter fun x => x.ticket ≠ r.ticket, log := s.log ++ [⟨r.ticket, r.tier, r.cohort, why, s.clock, s.stayed r⟩] }
def leaveAll (l : List Rq) (why : Int) : CoreS := l.foldl (fun s r => s.leave r why) s

def drained : CoreS :=
  if s.phase ≠ 1 ∨ (s.clock < s.limit ∧ 0 < s.len) then s else { s.leaveAll s.all 6 with phase := 2 }

/-- who ends first -/
def sooner (a b : Rq) : Bool := decide (a.deadline < b.deadline) || (decide (a.deadline = b.deadline) && decide (a.ticket ≤ b.ticket))
def due : List Rq := (s.all.filter fun r => decide (r.deadline ≤ s.clock)).mergeSort sooner
def sweep : CoreS := (s.leaveAll s.due 2).drained

/-- the least critical tier that has one, below n -/
def lastT (rows : Nat → List Rq) : Nat → Nat
  | 0 => 0
  | n + 1 => if rows n = [] then lastT rows n else n
/-- the most critical tier that has one, of the k up to n -/
def firstT (rows : Nat → List Rq) (n : Nat) : Nat → Nat
  | 0 => 0
  | k + 1 => if rows (n - (k + 1)) = [] then firstT rows n k else n - (k + 1)

def none : Rs := ⟨0, 0, 0, 0, 0⟩
def say (a : Int) : Rs := ⟨a, 0, 0, 0, 0⟩

/-- room is made -/
def fits (op : Opn) : Option CoreS :=
  if s.len = s.cf.room.toNat then
    let w := lastT s.rows s.nt
    if (w : Int) ≤ op.tier then .none else (match (s.rows w).getLast? with | some r => some (s.leave r 4) | .none => some s)
  else some s

def submit (op : Opn) : CoreS × Rs :=
  if s.phase ≠ 0 then (s, say 6)
  else if judgeM s.cf s.pd.level s.clock op.tier op.cohort op.num ≠ 0 then (s, say (judgeM s.cf s.pd.level s.clock op.tier op.cohort op.num))
  else match s.fits op with
    | .none => (s, say 5)
    | some s1 =>
      let tk := s1.ticket + 1
      ({ s1 with ticket := tk, rows := upd s1.rows op.tier.toNat (s1.rows op.tier.toNat ++ [⟨tk, op.tier, op.cohort, min op.num (sat (s1.clock + s1.cf.horizon)), s1.clock⟩]) }, ⟨1, tk, op.tier, op.cohort, 0⟩)

/-- who is next in a tier -/
def one (t : Nat) : Option Rq := if (s.md t).lifo = true then (s.rows t).getLast? else (s.rows t).head?

/-- who is dispatched, behind those that are dropped -/
def chosen (t : Nat) : Nat → CoreS → Rq → Int → CoreS × Rq
  | 0, s, r, _ => (s, r)
  | fuel + 1, s, r, said =>
    if said = 0 then (s, r)
    else
      let w := lastT s.rows s.nt
      if w ≠ t then (match (s.rows w).head? with | some v => (s.leave v 5, r) | .none => (s, r))
      else
        let s1 := s.leave r 5
        match s1.one t with
        | .none => (s1, r)
        | some r1 =>
          if said = 2 then ({ s1 with cd := upd s1.cd t (cdNote (s1.cd t) s.cf.target s.cf.interval s.clock (s1.stayed r1) ((s1.rows t).length : Nat)).1 }, r1)
          else
            let m := cdMore (s1.cd t) s.cf.target s.cf.interval s.clock (s1.stayed r1) ((s1.rows t).length : Nat)
            chosen t fuel { s1 with cd := upd s1.cd t m.1 } r1 m.2

def poll : CoreS × Rs :=
  if s.phase = 2 then (s, say 9)
  else
    let s1 := { s with cd := fun t => if t < s.nt ∧ s.rows t = [] then cdEmpty (s.cd t) else s.cd t }
    if s1.len = 0 then (s1, say 8)
    else
      let t := firstT s1.rows s1.nt s1.nt
      match (s1.rows t).head? with
      | .none => (s1, say 8)
      | some o =>
        let s2 := { s1 with md := upd s1.md t (mdTurn (s1.md t) s.cf.high s.cf.low s.cf.dwell s1.clock (s1.stayed o) ((s1.rows t).length : Nat)) }
        match s2.one t with
        | .none => (s2, say 8)
        | some r =>
          let m := cdLook (s2.cd t) s.cf.target s.cf.interval s2.clock (s2.stayed r) ((s2.rows t).length : Nat)
          let c := chosen t (s2.len + 1) { s2 with cd := upd s2.cd t m.1 } r m.2
          (c.1.leave c.2 1, ⟨7, c.2.ticket, c.2.tier, c.2.cohort, c.1.stayed c.2⟩)

def keyI (r : Rq) : Int := r.tier * 128 + r.cohort
/-- the worst of those at or above an edge -/
def worst (edge : Int) (l : List Rq) : Option Rq :=
  l.foldl (fun (b : Option Rq) r => match b with
    | .none => if edge ≤ keyI r then some r else .none
    | some x => if keyI x < keyI r ∨ (keyI r = keyI x ∧ r.ticket < x.ticket) then some r else some x) .none
def cut (edge : Int) : Nat → CoreS → CoreS
  | 0, s => s
  | fuel + 1, s => match worst edge s.all with
    | .none => s
    | some r => cut edge fuel (s.leave r 3)
def sample (u : Int) : CoreS × Rs :=
  let s1 := { s with pd := pdSample s.pd s.cf u }
  (cut (sat (s.cf.tiers * 128 - s1.pd.level)) (s1.len + 1) s1, say 10)

def drain (n : Int) : CoreS × Rs :=
  ((if s.phase = 0 then { s with phase := 1, limit := n } else if s.phase = 1 then { s with limit := min s.limit n } else s).drained, say 10)

def act (op : Opn) : CoreS × Rs :=
  if op.kind = 0 then s.submit op else if op.kind = 1 then s.poll else if op.kind = 2 then s.sample op.num else s.drain op.num

def shut (x : CoreS × Rs) : CoreS × Rs := if x.1.phase = 1 ∧ x.1.len = 0 then ({ x.1 with phase := 2 }, x.2) else x

/-- a call -/
def call (now : Int) (op : Opn) : CoreS × Rs :=
  let s0 := { s with clock := max s.clock now }
  if 4 ≤ op.kind then (s0, say 2)
  else if op.kind = 0 ∧ s0.phase = 0 ∧ judgeM s0.cf 0 s0.clock op.tier op.cohort op.num ≠ 0 then (s0, say (judgeM s0.cf 0 s0.clock op.tier op.cohort op.num))
  else shut (s0.sweep.act op)

end CoreS
end Go.M

/- A core in memory; a new one. -/
set_option linter.all false
set_option linter.constructorNameAsVariable false
set_option maxRecDepth 100000
namespace Go.M
open Go Go.Eng Go.RowKit

structure CIds where
  cb : Nat
  tb : Nat
  lb : Nat
  lo : Option Nat
  q : QIds

def CIds.list (d : CIds) : List Nat := d.cb :: d.tb :: d.lb :: (d.lo.toList ++ d.q.list)

structure CAt (w : World) (d : CIds) (h : CoreHM) (n : Nat) (T : Int) (rows : Nat → List (Int × Rq)) (log : List Oc) : Prop where
  hd : CoreHAt w d.cb d.tb h
  hq : h.q = some ⟨d.q.qb, 0, none⟩
  hlg : h.lg = some ⟨d.lb, 0, none⟩
  qv : QV w d.q n h.n T rows
  lg : LogAt w d.lb d.lo log
  nd : d.list.Nodup

variable {w w' : World} {d : CIds} {h : CoreHM} {n : Nat} {T : Int} {rows : Nat → List (Int × Rq)} {log : List Oc} {K : Value → World → Prop} {c : Cf}

theorem CAt.only {S : List Nat} (a : CAt w d h n T rows log) (ho : Only S w w') (hs : ∀ b ∈ d.list, b ∉ S) : CAt w' d h n T rows log :=
  ⟨a.hd.only ho (hs _ (by simp [CIds.list])) (hs _ (by simp [CIds.list])), a.hq, a.hlg, a.qv.only ho (fun b hb => hs b (by simp [CIds.list, hb])), a.lg.only ho (hs _ (by simp [CIds.list])) (fun b hb => hs b (by simp [CIds.list, hb])), a.nd⟩

theorem CAt.lt (a : CAt w d h n T rows log) : ∀ b ∈ d.list, b < w.heap.size := by
  intro b hb
  simp only [CIds.list, List.mem_cons, List.mem_append] at hb
  rcases hb with rfl | rfl | rfl | hb | hb
  · exact a.hd.lt_pb
  · exact a.hd.lt_tb
  · exact a.lg.lt
  · have hg : d.lo = some b := by simpa using hb
    obtain ⟨sv, g1, g2, g3⟩ := a.lg.row
    exact (g2.lt b (by rw [g3, hg])).2
  · exact a.qv.lt b hb

/-- a new core's head -/
def CoreHM.new (c : Cf) (q lg : Option Addr) : CoreHM :=
  { n := c.tiers.toNat, tiers := c.tiers, room := c.room, target := c.target, interval := c.interval, high := c.high, low := c.low, dwell := c.dwell, horizon := c.horizon, setpoint := c.setpoint, kp := c.kp, ki := c.ki, kd := c.kd, climit := c.limit, step := c.step, threads := c.threads, ring := c.ring,
    q := q, psum := 0, plast := 0, plevel := 0, lg := lg, phase := 0, limit := 0, clock := 0, ticket := 0,
    above := fun _ => false, first := fun _ => 0, dropping := fun _ => false, next := fun _ => 0, count := fun _ => 0, last := fun _ => 0, lifo := fun _ => false, since := fun _ => 0, turns := fun _ => 0 }

theorem cf_frame {b : Nat} (h : CfAt w b c) : w.cell? ⟨b, 0, none⟩ = some (.int .i64 c.tiers) ∧ w.cell? ⟨b, 1, none⟩ = some (.int .i64 c.room) ∧ w.cell? ⟨b, 2, none⟩ = some (.int .i64 c.target) ∧ w.cell? ⟨b, 3, none⟩ = some (.int .i64 c.interval) ∧ w.cell? ⟨b, 4, none⟩ = some (.int .i64 c.high) ∧ w.cell? ⟨b, 5, none⟩ = some (.int .i64 c.low) ∧
    w.cell? ⟨b, 6, none⟩ = some (.int .i64 c.dwell) ∧ w.cell? ⟨b, 7, none⟩ = some (.int .i64 c.horizon) ∧ w.cell? ⟨b, 8, none⟩ = some (.int .i64 c.setpoint) ∧ w.cell? ⟨b, 9, none⟩ = some (.int .i64 c.kp) ∧ w.cell? ⟨b, 10, none⟩ = some (.int .i64 c.ki) ∧ w.cell? ⟨b, 11, none⟩ = some (.int .i64 c.kd) ∧ w.cell? ⟨b, 12, none⟩ = some (.int .i64 c.limit) ∧
    w.cell? ⟨b, 13, none⟩ = some (.int .i64 c.step) ∧ w.cell? ⟨b, 14, none⟩ = some (.int .i64 c.threads) ∧ w.cell? ⟨b, 15, none⟩ = some (.int .i64 c.ring) := ⟨h.c0, h.c1, h.c2, h.c3, h.c4, h.c5, h.c6, h.c7, h.c8, h.c9, h.c10, h.c11, h.c12, h.c13, h.c14, h.c15⟩

/-- rows of zeros, as they are made -/
structure Zeros (w : World) (tb m s : Nat) (z : List Value) : Prop where
  cell : ∀ i k, i < m → k < s → w.cell? ⟨tb, i * s + k, none⟩ = z[k]?
  fr : ∀ i, w.frozen? ⟨tb, i, none⟩ = false
  lt : tb < w.heap.size

theorem Zeros.only {S : List Nat} {tb m s : Nat} {z : List Value} (h : Zeros w tb m s z) (hz : z.length = s) (ho : Only S w w') (hs : tb ∉ S) : Zeros w' tb m s z :=
  ⟨fun i k hi hk => by
    have h1 := h.cell i k hi hk
    obtain ⟨v, hv⟩ : ∃ v, z[k]? = some v := ⟨_, List.getElem?_eq_getElem (by omega)⟩
    rw [hv] at h1 ⊢
    exact ho.cell h1 hs, fun i => (ho.frozen h.lt hs).trans (h.fr i), Nat.lt_of_lt_of_le h.lt ho.size⟩

theorem zeros_made (w : World) (z : Array Value) (m s t : Nat) (hz : z.size = s) (hs : 0 < s) : Zeros (w.alloc (.cells (madeCells z (m * s)) t)) w.heap.size m s z.toList :=
  ⟨fun i k hi hk => by
    have h2 : i * s + k < m * s := by
      have := Nat.mul_le_mul_right s (show i + 1 ≤ m from hi)
      rw [Nat.succ_mul] at this
      omega
    rw [cell_new, if_pos rfl, made_get _ _ _ h2 (by omega)]
    have : (i * s + k) % z.size = k := by rw [hz, Nat.mul_comm, Nat.mul_add_mod]; exact Nat.mod_eq_of_lt hk
    rw [this]; simp, fun i => by simp [frozen_new], by simp [World.size_alloc]⟩

def tierZ : List Value := [.bool false, .int .i64 0, .bool false, .int .i64 0, .int .u64 0, .int .u64 0, .bool false, .int .i64 0, .int .u64 0]

theorem coreH_new {tb m : Nat} (hz : Zeros w tb m 9 tierZ) (hm : c.tiers = m) (q lg : Option Addr) :
    CoreHAt (w.alloc (.cells #[(.int .i64 c.tiers), (.int .i64 c.room), (.int .i64 c.target), (.int .i64 c.interval), (.int .i64 c.high), (.int .i64 c.low), (.int .i64 c.dwell), (.int .i64 c.horizon), (.int .i64 c.setpoint), (.int .i64 c.kp), (.int .i64 c.ki), (.int .i64 c.kd), (.int .i64 c.limit), (.int .i64 c.step), (.int .i64 c.threads), (.int .i64 c.ring), (.pointer q), (.slice (some ⟨tb, 0, none⟩) m m), (.int .i64 0), (.int .i64 0), (.int .i64 0), (.pointer lg), (.int .u8 0), (.int .i64 0), (.int .i64 0), (.int .u64 0)] 176)) w.heap.size tb (CoreHM.new c q lg) := by
  have hlt := hz.lt
  have hne : tb ≠ w.heap.size := by omega
  have hmn : c.tiers.toNat = m := by omega
  have hc : ∀ i k, i < m → k < 9 → (w.alloc (.cells #[(.int .i64 c.tiers), (.int .i64 c.room), (.int .i64 c.target), (.int .i64 c.interval), (.int .i64 c.high), (.int .i64 c.low), (.int .i64 c.dwell), (.int .i64 c.horizon), (.int .i64 c.setpoint), (.int .i64 c.kp), (.int .i64 c.ki), (.int .i64 c.kd), (.int .i64 c.limit), (.int .i64 c.step), (.int .i64 c.threads), (.int .i64 c.ring), (.pointer q), (.slice (some ⟨tb, 0, none⟩) m m), (.int .i64 0), (.int .i64 0), (.int .i64 0), (.pointer lg), (.int .u8 0), (.int .i64 0), (.int .i64 0), (.int .u64 0)] 176)).cell? ⟨tb, i * 9 + k, none⟩ = tierZ[k]? := fun i k hi hk => by
    rw [cell_new, if_neg hne]; exact hz.cell i k hi hk
  have hN : (CoreHM.new c q lg).n = m := hmn
  constructor
  case ne_pb_tb => omega
  case h_trs => rw [hN]; simp [cell_new]
  case z_pb => intro i; simp [frozen_new]
  case z_tb => intro i; rw [frozen_new, if_neg hne]; exact hz.fr i
  case lt_pb => rw [World.size_alloc]; omega
  case lt_tb => rw [World.size_alloc]; omega
  case c_above => intro i hi; exact hc i 0 (by omega) (by omega)
  case c_first => intro i hi; exact hc i 1 (by omega) (by omega)
  case c_dropping => intro i hi; exact hc i 2 (by omega) (by omega)
  case c_next => intro i hi; exact hc i 3 (by omega) (by omega)
  case c_count => intro i hi; exact hc i 4 (by omega) (by omega)
  case c_last => intro i hi; exact hc i 5 (by omega) (by omega)
  case c_lifo => intro i hi; exact hc i 6 (by omega) (by omega)
  case c_since => intro i hi; exact hc i 7 (by omega) (by omega)
  case c_turns => intro i hi; exact hc i 8 (by omega) (by omega)
  all_goals (rw [cell_new, if_pos rfl]; rfl)

theorem coreNew_bad (hv : ¬ c.Ok) (hK : ∀ w', Only [] w w' → K (.tuple #[.pointer none, .int .i64 1]) w') : CallsV P 25 #[.agg c.cells] w K := by
  refine m_core_New_ok ?_
  unfold m_core_New
  have a0 := cf_new w c 24
  have o0 : Only [] w (w.alloc (.cells c.cells 24)) := Only.alloc _ _
  refine al_intro ?_
  simp only [addr_add, Nat.zero_add]
  refine cf_load a0 (valid_ok (c := c) (fun h => absurd h hv) fun _ w1 o1 => ⟨_, rfl, if_yes (by simp) (hK _ (o0.trans o1))⟩)

theorem coreNew_ok (hv : c.Ok) (hK : ∀ w' d, Only [] w w' → (∀ b ∈ d.list, w.heap.size ≤ b) → CAt w' d (CoreHM.new c (some ⟨d.q.qb, 0, none⟩) (some ⟨d.lb, 0, none⟩)) c.room.toNat 0 (fun _ => []) [] → K (.tuple #[.pointer (some ⟨d.cb, 0, none⟩), .int .i64 0]) w') :
    CallsV P 25 #[.agg c.cells] w K := by
  refine m_core_New_ok ?_
  unfold m_core_New
  have a0 := cf_new w c 24
  have o0 : Only [] w (w.alloc (.cells c.cells 24)) := Only.alloc _ _
  refine al_intro ?_
  simp only [addr_add, Nat.zero_add]
  obtain ⟨t1, t2⟩ := hv.tiers
  obtain ⟨r1, r2⟩ := hv.room
  obtain ⟨m, hm⟩ := Int.eq_ofNat_of_zero_le (show 0 ≤ c.tiers by omega)
  obtain ⟨rm, hrm⟩ := Int.eq_ofNat_of_zero_le (show 0 ≤ c.room by omega)
  refine cf_load a0 (valid_ok (c := c) (fun _ w1 o1 => ⟨_, rfl, if_no (by simp) ?_⟩) fun h => absurd hv h)
  have a1 := a0.only o1 (by simp)
  refine ld_int a1.c0 (ld_int a1.c1 ?_)
  rw [hm, hrm]
  refine qNew_ok (by omega) (by omega) (by omega) (by omega) fun w2 dq o2 l2 qv => ⟨_, _, rfl, ?_⟩
  have o02 := (o0.trans o1).trans o2
  have s2 := o02.size
  have oD : Only [] w2 w2.drew := Only.drew w2
  have a2 := (a1.only o2 (by simp)).only oD (by simp)
  have qvd := qv.only oD (by simp)
  obtain ⟨W, hW⟩ : ∃ W, w2.drew = W := ⟨_, rfl⟩
  rw [hW] at oD a2 qvd ⊢
  have sD := oD.size
  have l2' : ∀ b ∈ dq.list, w.heap.size ≤ b := fun b hb => by have := l2 b hb; have := (o0.trans o1).size; omega
  have ltq := qvd.lt
  refine cf_load a2 (ld_int a2.c0 ?_)
  rw [hm]
  have fin : ∀ w5 tb lb, Only [] W w5 → W.heap.size ≤ tb → W.heap.size ≤ lb → tb ≠ lb → Zeros w5 tb m 9 tierZ → LogAt w5 lb none [] →
      K (.tuple #[.pointer (some ⟨w5.heap.size, 0, none⟩), .int .i64 0]) (w5.alloc (.cells #[(.int .i64 c.tiers), (.int .i64 c.room), (.int .i64 c.target), (.int .i64 c.interval), (.int .i64 c.high), (.int .i64 c.low), (.int .i64 c.dwell), (.int .i64 c.horizon), (.int .i64 c.setpoint), (.int .i64 c.kp), (.int .i64 c.ki), (.int .i64 c.kd), (.int .i64 c.limit), (.int .i64 c.step), (.int .i64 c.threads), (.int .i64 c.ring), (.pointer (some ⟨dq.qb, 0, none⟩)), (.slice (some ⟨tb, 0, none⟩) m m), (.int .i64 0), (.int .i64 0), (.int .i64 0), (.pointer (some ⟨lb, 0, none⟩)), (.int .u8 0), (.int .i64 0), (.int .i64 0), (.int .u64 0)] 176)) := by
    intro w5 tb lb o5 h1 h2 h3 hz hl
    have s5 := o5.size
    have z1 := hz.lt
    have z2 := hl.lt
    have oA : Only [] w5 (w5.alloc (.cells #[(.int .i64 c.tiers), (.int .i64 c.room), (.int .i64 c.target), (.int .i64 c.interval), (.int .i64 c.high), (.int .i64 c.low), (.int .i64 c.dwell), (.int .i64 c.horizon), (.int .i64 c.setpoint), (.int .i64 c.kp), (.int .i64 c.ki), (.int .i64 c.kd), (.int .i64 c.limit), (.int .i64 c.step), (.int .i64 c.threads), (.int .i64 c.ring), (.pointer (some ⟨dq.qb, 0, none⟩)), (.slice (some ⟨tb, 0, none⟩) m m), (.int .i64 0), (.int .i64 0), (.int .i64 0), (.pointer (some ⟨lb, 0, none⟩)), (.int .u8 0), (.int .i64 0), (.int .i64 0), (.int .u64 0)] 176)) := Only.alloc _ _
    refine hK _ ⟨w5.heap.size, tb, lb, none, dq⟩ (((o02.trans oD).trans o5).trans oA) ?_ ⟨coreH_new hz hm _ _, rfl, rfl, ?_, hl.only oA (by simp) (by simp), ?_⟩
    · intro b hb
      simp only [CIds.list, Option.toList, List.nil_append, List.mem_cons] at hb
      rcases hb with rfl | rfl | rfl | hb
      · omega
      · omega
      · omega
      · exact l2' b hb
    · have e1 : c.room.toNat = rm := by omega
      have e2 : (CoreHM.new c (some ⟨dq.qb, 0, none⟩) (some ⟨lb, 0, none⟩)).n = m := by show c.tiers.toNat = m; omega
      rw [e1]
      show QV _ dq rm (CoreHM.new c (some ⟨dq.qb, 0, none⟩) (some ⟨lb, 0, none⟩)).n 0 _
      rw [e2]
      exact (qvd.only o5 (by simp)).only oA (by simp)
    · show (w5.heap.size :: tb :: lb :: dq.list).Nodup
      refine List.nodup_cons.2 ⟨fun hc => ?_, List.nodup_cons.2 ⟨fun hc => ?_, List.nodup_cons.2 ⟨fun hc => ?_, qv.nodup⟩⟩⟩
      · rcases List.mem_cons.1 hc with hc | hc
        · omega
        · rcases List.mem_cons.1 hc with hc | hc
          · omega
          · have := ltq _ hc; omega
      · rcases List.mem_cons.1 hc with hc | hc
        · omega
        · have := ltq _ hc; omega
      · have := ltq _ hc; omega
  have ftier : (ti265.zero.cells).toList = tierZ := rfl
  refine ⟨?_, ?_⟩
  · refine make_ok W2 (t := 172) (e := 265) (ti := ti265) rfl rfl rfl (by simp [ti265]; omega) (by omega) ⟨_, _, _, rfl, ?_⟩
    have hz := zeros_made W ti265.zero.cells m 9 265 rfl (by omega)
    rw [ftier] at hz
    obtain ⟨w3, hw3⟩ : ∃ w3, W.alloc (.cells (madeCells ti265.zero.cells (m * ti265.size)) 265) = w3 := ⟨_, rfl⟩
    have o3 : Only [] W w3 := by rw [← hw3]; exact Only.alloc _ _
    have hz3 : Zeros w3 W.heap.size m 9 tierZ := by rw [← hw3]; exact hz
    rw [hw3]
    have a3 := a2.only o3 (by simp)
    have z3 := hz3.lt
    have fr3 := cf_frame a3
    rw [hm] at fr3
    refine ⟨fr3, logNew_ok fun w4 o4 e4 l4 => ⟨_, rfl, ?_⟩⟩
    have fr4 := cf_frame (a3.only o4 (by simp))
    rw [hm] at fr4
    refine ⟨fr4, al_intro ?_⟩
    have := fin w4 W.heap.size w3.heap.size (o3.trans o4) (Nat.le_refl _) (by omega) (by omega) (hz3.only rfl o4 (by simp)) l4
    rw [hm] at this
    exact this
  · refine logNew_ok fun w4 o4 e4 l4 => ⟨_, rfl, ?_⟩
    have a4 := a2.only o4 (by simp)
    have fr4 := cf_frame a4
    rw [hm] at fr4
    refine ⟨fr4, fr4.1, ?_⟩
    refine make_ok W2 (t := 172) (e := 265) (ti := ti265) rfl rfl rfl (by simp [ti265]; omega) (by omega) ⟨_, _, _, rfl, ?_⟩
    have hz := zeros_made w4 ti265.zero.cells m 9 265 rfl (by omega)
    rw [ftier] at hz
    obtain ⟨w3, hw3⟩ : ∃ w3, w4.alloc (.cells (madeCells ti265.zero.cells (m * ti265.size)) 265) = w3 := ⟨_, rfl⟩
    have o3 : Only [] w4 w3 := by rw [← hw3]; exact Only.alloc _ _
    have hz3 : Zeros w3 w4.heap.size m 9 tierZ := by rw [← hw3]; exact hz
    rw [hw3]
    have fr3 := cf_frame (a4.only o3 (by simp))
    rw [hm] at fr3
    refine ⟨fr3, al_intro ?_⟩
    have := fin w3 w4.heap.size W.heap.size (o4.trans o3) (by omega) (Nat.le_refl _) (by omega) hz3 (l4.only o3 (by simp) (by simp))
    rw [hm] at this
    exact this

end Go.M

/- What is collected from a box; the call in it. -/
set_option linter.all false
set_option linter.constructorNameAsVariable false
namespace Go.M
open Go Go.Eng Go.RowKit

variable {w : World} {K : Value → World → Prop} {b : Nat} {s : BoxM}

def BoxM.res (s : BoxM) : Rs := ⟨s.answer, s.ticket, s.rtier, s.rcohort, s.sojourn⟩
def BoxM.opn (s : BoxM) : Opn := ⟨s.kind, s.tier, s.cohort, s.num⟩

/-- a result in a block of its own -/
structure RsAt (w : World) (rb : Nat) (r : Rs) : Prop where
  c0 : w.cell? ⟨rb, 0, none⟩ = some (.int .u8 r.answer)
  c1 : w.cell? ⟨rb, 1, none⟩ = some (.int .u64 r.ticket)
  c2 : w.cell? ⟨rb, 2, none⟩ = some (.int .i64 r.tier)
  c3 : w.cell? ⟨rb, 3, none⟩ = some (.int .i64 r.cohort)
  c4 : w.cell? ⟨rb, 4, none⟩ = some (.int .i64 r.sojourn)
  z : ∀ i, w.frozen? ⟨rb, i, none⟩ = false

/-- five stores and five loads of a result -/
theorem rs_store {S : List Nat} {w0 : World} {rb : Nat} {r0 r : Rs} (h : RsAt w rb r0) (ho : Only S w0 w) (hb : w0.heap.size ≤ rb) {k : World → Prop}
    (hK : ∀ w', Only S w0 w' → Only [rb] w w' → RsAt w' rb r → k w') :
    St ⟨rb, 0, none⟩ (.int .u8 r.answer) w fun w => St ⟨rb, 1, none⟩ (.int .u64 r.ticket) w fun w => St ⟨rb, 2, none⟩ (.int .i64 r.tier) w fun w => St ⟨rb, 3, none⟩ (.int .i64 r.cohort) w fun w => St ⟨rb, 4, none⟩ (.int .i64 r.sojourn) w k := by
  have n (i j : Nat) (v : Value) (w : World) (h : i ≠ j) : (w.setCell ⟨rb, i, none⟩ v).cell? ⟨rb, j, none⟩ = w.cell? ⟨rb, j, none⟩ := cell_set_ne (.inr (Ne.symm h))
  refine St_at h.c0 (h.z _) ?_
  have d1 := (n 0 1 (.int .u8 r.answer) w (by omega)).trans h.c1
  refine St_at d1 ((frozen_set _ _ _ _).trans (h.z _)) ?_
  have d2 := (n 1 2 (.int .u64 r.ticket) _ (by omega)).trans ((n 0 2 (.int .u8 r.answer) w (by omega)).trans h.c2)
  refine St_at d2 ((frozen_set _ _ _ _).trans ((frozen_set _ _ _ _).trans (h.z _))) ?_
  have d3 := (n 2 3 (.int .i64 r.tier) _ (by omega)).trans ((n 1 3 (.int .u64 r.ticket) _ (by omega)).trans ((n 0 3 (.int .u8 r.answer) w (by omega)).trans h.c3))
  refine St_at d3 ((frozen_set _ _ _ _).trans ((frozen_set _ _ _ _).trans ((frozen_set _ _ _ _).trans (h.z _)))) ?_
  have d4 := (n 3 4 (.int .i64 r.cohort) _ (by omega)).trans ((n 2 4 (.int .i64 r.tier) _ (by omega)).trans ((n 1 4 (.int .u64 r.ticket) _ (by omega)).trans ((n 0 4 (.int .u8 r.answer) w (by omega)).trans h.c4)))
  refine St_at d4 ((frozen_set _ _ _ _).trans ((frozen_set _ _ _ _).trans ((frozen_set _ _ _ _).trans ((frozen_set _ _ _ _).trans (h.z _))))) (hK _ ?_ ?_ ?_)
  · exact ((((ho.st (.inr hb) h.c0).st (.inr hb) d1).st (.inr hb) d2).st (.inr hb) d3).st (.inr hb) d4
  · exact (((((Only.refl [rb] w).st (.inl (by simp)) h.c0).st (.inl (by simp)) d1).st (.inl (by simp)) d2).st (.inl (by simp)) d3).st (.inl (by simp)) d4
  · refine ⟨?_, ?_, ?_, ?_, ?_, fun i => by simp only [frozen_set]; exact h.z i⟩
    · rw [n _ _ _ _ (by omega), n _ _ _ _ (by omega), n _ _ _ _ (by omega), n _ _ _ _ (by omega)]; exact cell_set_eq h.c0
    · rw [n _ _ _ _ (by omega), n _ _ _ _ (by omega), n _ _ _ _ (by omega)]; exact cell_set_eq d1
    · rw [n _ _ _ _ (by omega), n _ _ _ _ (by omega)]; exact cell_set_eq d2
    · rw [n _ _ _ _ (by omega)]; exact cell_set_eq d3
    · exact cell_set_eq d4

theorem RsAt.only {S : List Nat} {w' : World} {rb : Nat} {r : Rs} (h : RsAt w rb r) (ho : Only S w w') (hs : rb ∉ S) : RsAt w' rb r :=
  ⟨ho.cell h.c0 hs, ho.cell h.c1 hs, ho.cell h.c2 hs, ho.cell h.c3 hs, ho.cell h.c4 hs, fun i => (ho.frozen (cell_lt h.c0) hs).trans (h.z i)⟩

theorem rs_new (w : World) : RsAt (w.alloc (.cells #[(.int .u8 0), (.int .u64 0), (.int .i64 0), (.int .i64 0), (.int .i64 0)] 42)) w.heap.size ⟨0, 0, 0, 0, 0⟩ := by
  constructor <;> (try intro i) <;> simp [cell_new, frozen_new]

theorem collect_no {K : Value → World → Prop} (hs : BoxAt w b s) (hr : 0 ≤ s.state ∧ s.state ≤ 2) (h2 : s.state ≠ 2) (hK : ∀ w', Only [] w w' → K (.tuple #[(⟨0, 0, 0, 0, 0⟩ : Rs).v, .bool false]) w') : CallsV P 118 #[.pointer (some ⟨b, 0, none⟩)] w K := by
  refine m_lock_Box_Collect_ok ?_
  unfold m_lock_Box_Collect
  refine al_intro ?_
  have o0 : Only [] w (w.alloc (.cells #[(.int .u8 0), (.int .u64 0), (.int .i64 0), (.int .i64 0), (.int .i64 0)] 42)) := Only.alloc _ _
  refine state_ok (hs.only o0 (by simp)) hr ⟨_, rfl, if_yes (by simpa using h2) ?_⟩
  simp only [addr_add, Nat.add_zero, Nat.zero_add]
  refine rs_store (r := ⟨0, 0, 0, 0, 0⟩) (rs_new w) o0 (Nat.le_refl _) fun w' ho _ h => ?_
  exact ld_int h.c0 (ld_int h.c1 (ld_int h.c2 (ld_int h.c3 (ld_int h.c4 (hK w' ho)))))

theorem collect_yes {K : Value → World → Prop} (hs : BoxAt w b s) (h2 : s.state = 2) (hK : ∀ w', Only [b] w w' → BoxAt w' b { s with state := 0 } → K (.tuple #[s.res.v, .bool true]) w') : CallsV P 118 #[.pointer (some ⟨b, 0, none⟩)] w K := by
  refine m_lock_Box_Collect_ok ?_
  unfold m_lock_Box_Collect
  refine al_intro ?_
  have hb := Nat.ne_of_lt hs.lt_pb
  obtain ⟨W, hW⟩ : ∃ W, w.alloc (.cells #[(.int .u8 0), (.int .u64 0), (.int .i64 0), (.int .i64 0), (.int .i64 0)] 42) = W := ⟨_, rfl⟩
  have o0 : Only [] w W := by rw [← hW]; exact Only.alloc _ _
  have a0 : RsAt W w.heap.size ⟨0, 0, 0, 0, 0⟩ := by rw [← hW]; exact rs_new w
  rw [hW]
  have s0 := hs.only o0 (by simp)
  have hsz : w.heap.size < W.heap.size := cell_lt a0.c0
  refine state_ok s0 (by omega) ⟨_, rfl, if_no (by simp [h2]) (nn_some ?_)⟩
  simp only [addr_add, Nat.add_zero, Nat.zero_add]
  refine ld_int s0.h_answer (ld_int s0.h_ticket (ld_int s0.h_rtier (ld_int s0.h_rcohort (ld_int s0.h_sojourn (al_intro ?_)))))
  obtain ⟨W1, hW1⟩ : ∃ W1, W.alloc (.cells #[(.int .u8 0), (.int .u64 0), (.int .i64 0), (.int .i64 0), (.int .i64 0)] 42) = W1 := ⟨_, rfl⟩
  have o1 : Only [] W W1 := by rw [← hW1]; exact Only.alloc _ _
  have a1 : RsAt W1 W.heap.size ⟨0, 0, 0, 0, 0⟩ := by rw [← hW1]; exact rs_new W
  rw [hW1]
  refine rs_store (r := s.res) a1 o1 (Nat.le_refl _) fun w2 o2 _ h => nn_some ?_
  simp only [addr_add, Nat.add_zero, Nat.zero_add]
  have s2 := s0.only o2 (by simp)
  have a02 := a0.only o2 (by simp)
  have oB : Only [b] w2 (w2.setCell ⟨b, 0, none⟩ (.int .i32 0)) := (Only.refl [b] w2).st (.inl (by simp)) s2.h_state
  have hbW : W.heap.size ≠ b := by have := s0.lt_pb; omega
  have s3 := s2.set_state 0
  have h3 := h.only oB (by simpa using hbW)
  have a03 := a02.only oB (by simpa using Ne.symm hb)
  refine store32_ok s2.h_state (s2.z_pb _) ⟨rfl, ?_⟩
  refine ld_int h3.c0 (ld_int h3.c1 (ld_int h3.c2 (ld_int h3.c3 (ld_int h3.c4 ?_))))
  have oA : Only [b] w (w2.setCell ⟨b, 0, none⟩ (.int .i32 0)) := ((o0.trans o2).mono (by simp)).trans oB
  refine rs_store (r := s.res) a03 oA (Nat.le_refl _) fun w4 o4 oC h4 => ?_
  exact ld_int h4.c0 (ld_int h4.c1 (ld_int h4.c2 (ld_int h4.c3 (ld_int h4.c4 (hK w4 o4 (s3.only oC (by simpa using hb)))))))

/-- a call in a block of its own -/
structure OpAt (w : World) (rb : Nat) (r : Opn) : Prop where
  c0 : w.cell? ⟨rb, 0, none⟩ = some (.int .u8 r.kind)
  c1 : w.cell? ⟨rb, 1, none⟩ = some (.int .i64 r.tier)
  c2 : w.cell? ⟨rb, 2, none⟩ = some (.int .i64 r.cohort)
  c3 : w.cell? ⟨rb, 3, none⟩ = some (.int .i64 r.num)
  z : ∀ i, w.frozen? ⟨rb, i, none⟩ = false

theorem op_store {S : List Nat} {w0 : World} {rb : Nat} {r0 r : Opn} (h : OpAt w rb r0) (ho : Only S w0 w) (hb : w0.heap.size ≤ rb) {k : World → Prop}
    (hK : ∀ w', Only S w0 w' → Only [rb] w w' → OpAt w' rb r → k w') :
    St ⟨rb, 0, none⟩ (.int .u8 r.kind) w fun w => St ⟨rb, 1, none⟩ (.int .i64 r.tier) w fun w => St ⟨rb, 2, none⟩ (.int .i64 r.cohort) w fun w => St ⟨rb, 3, none⟩ (.int .i64 r.num) w k := by
  have n (i j : Nat) (v : Value) (w : World) (h : i ≠ j) : (w.setCell ⟨rb, i, none⟩ v).cell? ⟨rb, j, none⟩ = w.cell? ⟨rb, j, none⟩ := cell_set_ne (.inr (Ne.symm h))
  refine St_at h.c0 (h.z _) ?_
  have d1 := (n 0 1 (.int .u8 r.kind) w (by omega)).trans h.c1
  refine St_at d1 ((frozen_set _ _ _ _).trans (h.z _)) ?_
  have d2 := (n 1 2 (.int .i64 r.tier) _ (by omega)).trans ((n 0 2 (.int .u8 r.kind) w (by omega)).trans h.c2)
  refine St_at d2 ((frozen_set _ _ _ _).trans ((frozen_set _ _ _ _).trans (h.z _))) ?_
  have d3 := (n 2 3 (.int .i64 r.cohort) _ (by omega)).trans ((n 1 3 (.int .i64 r.tier) _ (by omega)).trans ((n 0 3 (.int .u8 r.kind) w (by omega)).trans h.c3))
  refine St_at d3 ((frozen_set _ _ _ _).trans ((frozen_set _ _ _ _).trans ((frozen_set _ _ _ _).trans (h.z _)))) (hK _ ?_ ?_ ?_)
  · exact (((ho.st (.inr hb) h.c0).st (.inr hb) d1).st (.inr hb) d2).st (.inr hb) d3
  · exact ((((Only.refl [rb] w).st (.inl (by simp)) h.c0).st (.inl (by simp)) d1).st (.inl (by simp)) d2).st (.inl (by simp)) d3
  · refine ⟨?_, ?_, ?_, ?_, fun i => by simp only [frozen_set]; exact h.z i⟩
    · rw [n _ _ _ _ (by omega), n _ _ _ _ (by omega), n _ _ _ _ (by omega)]; exact cell_set_eq h.c0
    · rw [n _ _ _ _ (by omega), n _ _ _ _ (by omega)]; exact cell_set_eq d1
    · rw [n _ _ _ _ (by omega)]; exact cell_set_eq d2
    · exact cell_set_eq d3

theorem boxOp_yes {K : Value → World → Prop} (hs : BoxAt w b s) (h2 : s.state = 1) (hK : ∀ w', Only [] w w' → K (.tuple #[s.opn.v, .bool true]) w') : CallsV P 121 #[.pointer (some ⟨b, 0, none⟩)] w K := by
  refine m_lock_Box_Op_ok ?_
  unfold m_lock_Box_Op
  refine al_intro ?_
  have hb := Nat.ne_of_lt hs.lt_pb
  obtain ⟨W, hW⟩ : ∃ W, w.alloc (.cells #[(.int .u8 0), (.int .i64 0), (.int .i64 0), (.int .i64 0)] 32) = W := ⟨_, rfl⟩
  have o0 : Only [] w W := by rw [← hW]; exact Only.alloc _ _
  have a0 : OpAt W w.heap.size ⟨0, 0, 0, 0⟩ := by rw [← hW]; constructor <;> (try intro i) <;> simp [cell_new, frozen_new]
  rw [hW]
  have s0 := hs.only o0 (by simp)
  refine state_ok s0 (by omega) ⟨_, rfl, if_no (by simp [h2]) (nn_some ?_)⟩
  simp only [addr_add, Nat.add_zero, Nat.zero_add]
  refine ld_int s0.h_kind (ld_int s0.h_tier (ld_int s0.h_cohort (ld_int s0.h_num ?_)))
  refine op_store (r := s.opn) a0 o0 (Nat.le_refl _) fun w4 o4 _ h4 => ?_
  exact ld_int h4.c0 (ld_int h4.c1 (ld_int h4.c2 (ld_int h4.c3 (hK w4 o4))))

end Go.M

/- What the functions of the heap do: those below a key. -/
set_option linter.all false
set_option linter.constructorNameAsVariable false
set_option maxRecDepth 100000
namespace Go.M
open Go Go.Eng Go.RowKit

variable {w : World} {K : Value → World → Prop} {hb ab n : Nat} {ob : Option Nat} {l : List En} {at_ : Nat → Int}

theorem wrap_c3 {k : Nat} (h : k ≤ 1000000) : IntKind.wrap .i64 ((IntKind.wrap .i64 (2 * (k : Int))) + 2) = ((2 * k + 2 : Nat) : Int) := by
  have e1 : IntKind.wrap .i64 (2 * (k : Int)) = 2 * (k : Int) := IntWalk.i64_in _ (by omega)
  rw [e1]
  have e2 : (2 * (k : Int) + 2) = ((2 * k + 2 : Nat) : Int) := by omega
  rw [e2]
  exact IntWalk.i64_in _ (by omega)

def belowL (l : List En) (x : Int) (k : Nat) : List En := (belowI (el l) l.length x k).map (el l)

theorem belowL_cons {l : List En} {x : Int} {k : Nat} (h : k < l.length ∧ (el l k).key ≤ x) : belowL l x k = el l k :: (belowL l x (2 * k + 1) ++ belowL l x (2 * k + 2)) := by
  unfold belowL
  rw [belowI, dif_pos h]
  simp
theorem belowL_nil {l : List En} {x : Int} {k : Nat} (h : ¬ (k < l.length ∧ (el l k).key ≤ x)) : belowL l x k = [] := by
  unfold belowL
  rw [belowI, dif_neg h]
  rfl

/-- a row of a function's own grows by one -/
theorem grow_ok {t e : TypeId} {ti : TI} (hs : shape1 T0 t = some (.slice e)) (hti : T0.ty e = some ti) (hnt : ti.isTuple = false) (hsz : 0 < ti.size) (hzs : ti.zero.cells.size = ti.size)
    {w : World} {v : Value} {m : Nat} {xs : List Value} (hown : w.ownsRow 0 e ti.size v m xs) {bb : Nat} {news : List Value} (hl : news.length = ti.size) (hnews : ∀ j u, news[j]? = some u → w.cell? ⟨bb, j, none⟩ = some u)
    (h1 : ∀ u ∈ news, u.oneCell' = true) (hm : m + 1 ≤ maxLen) (hb : (m + 1) * ti.bytes ≤ 140737488355328) {K : Value → World → Prop}
    (hK : ∀ g cap w', w'.ownsRow 0 e ti.size (.slice (some ⟨g, 0, none⟩) (m + 1) cap) (m + 1) (xs ++ news) → Only v.ownBlock.toList w w' → (v.ownBlock = some g ∨ w.heap.size ≤ g) → K (.slice (some ⟨g, 0, none⟩) (m + 1) cap) w') :
    RunB P .append #[t, t] t #[false, false] #[v, .slice (some ⟨bb, 0, none⟩) 1 1] w K :=
  append_ok W2 hs hti hnt hsz hzs hown hl hnews h1 hm hb fun g cap w' a1 a2 a3 => hK g cap w' a1 (own_only hown a2 fun b hb => by rw [hb]; simp) (a3.imp id fun h => by omega)

theorem below_ok (x : Int) : ∀ (m k : Nat), l.length - k ≤ m → ∀ {w : World} {a : Option Addr} {c : Nat} {xs : List En} {K : Value → World → Prop}, HeapAt w hb ab ob n l at_ → l.length ≤ 1024 → k ≤ 100000 →
    w.ownsRow 0 377 3 (.slice a xs.length c) xs.length (xs.flatMap En.cells) → (∀ g, (Value.slice a xs.length c).ownBlock = some g → g ≠ hb ∧ g ≠ ab ∧ ob ≠ some g) → xs.length + (belowL l x k).length ≤ 100000 →
    (∀ w' a' c', Only (Value.slice a xs.length c).ownBlock.toList w w' → w'.ownsRow 0 377 3 (.slice a' (xs ++ belowL l x k).length c') (xs ++ belowL l x k).length ((xs ++ belowL l x k).flatMap En.cells) →
      (∀ g, (Value.slice a' (xs ++ belowL l x k).length c').ownBlock = some g → (Value.slice a xs.length c).ownBlock = some g ∨ w.heap.size ≤ g) → K (.slice a' (xs ++ belowL l x k).length c') w') →
    CallsV P 235 #[.pointer (some ⟨hb, 0, none⟩), .int .i64 (k : Int), .int .i64 x, .slice a xs.length c] w K := by
  intro m
  induction m with
  | zero =>
    intro k hm w a c xs K h hlen hk hown hsep hbig hK
    refine m_heap_Heap_below_ok ?_
    unfold m_heap_Heap_below
    obtain ⟨sv, g1, g2, g3⟩ := h.row
    obtain ⟨a2, c2, rfl⟩ := row_slice g2
    refine nn_some ?_
    simp only [addr_add, Nat.add_zero, Nat.zero_add]
    refine ld_slice g1 (if_yes (by simp; omega) ?_)
    have e : belowL l x k = [] := belowL_nil (by omega)
    rw [e, List.append_nil] at hK
    exact hK w a c (Only.refl _ _) hown fun g hg => .inl hg
  | succ m ih =>
    intro k hm w a c xs K h hlen hk hown hsep hbig hK
    refine m_heap_Heap_below_ok ?_
    unfold m_heap_Heap_below
    obtain ⟨sv, g1, g2, g3⟩ := h.row
    obtain ⟨a2, c2, rfl⟩ := row_slice g2
    refine nn_some ?_
    simp only [addr_add, Nat.add_zero, Nat.zero_add]
    by_cases hkl : l.length ≤ k
    · refine ld_slice g1 (if_yes (by simp; omega) ?_)
      have e : belowL l x k = [] := belowL_nil (by omega)
      rw [e, List.append_nil] at hK
      exact hK w a c (Only.refl _ _) hown fun g hg => .inl hg
    · refine ld_slice g1 (if_no (by simp; omega) (nn_some ?_))
      have hkl' : k < l.length := by omega
      obtain ⟨g, c', hob, q1, q2, q3, q4, q5, q6⟩ := h.get hkl'
      obtain ⟨p1, p2, p3⟩ := q6 k hkl'
      simp only [addr_add, Nat.add_zero, Nat.zero_add]
      refine ld_slice q1 (ix_nat hkl' ?_)
      simp only [addr_add, Nat.add_zero, Nat.zero_add, Int.toNat_natCast]
      refine ld_int p1 ?_
      by_cases hkey : x < (el l k).key
      · refine if_yes (by simpa using hkey) ?_
        have e : belowL l x k = [] := belowL_nil (by omega)
        rw [e, List.append_nil] at hK
        exact hK w a c (Only.refl _ _) hown fun g hg => .inl hg
      · refine if_no (by simpa using hkey) ?_
        have e := belowL_cons (l := l) (x := x) (k := k) ⟨hkl', by omega⟩
        rw [e] at hK hbig
        unfold m_heap_Heap_below_c3
        simp only
        refine nn_some ?_
        simp only [addr_add, Nat.add_zero, Nat.zero_add]
        refine ld_slice q1 (ix_nat hkl' ?_)
        simp only [addr_add, Nat.add_zero, Nat.zero_add, Int.toNat_natCast]
        refine ld_int p1 (ld_int p2 (ld_int p3 (al_intro ?_)))
        obtain ⟨W, hW⟩ : ∃ W, w.alloc (.cells #[.int .i64 (el l k).key, .int .u64 (el l k).tie, .int .i64 ((el l k).i : Int)] 377) = W := ⟨_, rfl⟩
        have o0 : Only [] w W := by rw [← hW]; exact Only.alloc _ _
        have hb3 : ∀ j u, (el l k).cells[j]? = some u → W.cell? ⟨w.heap.size, j, none⟩ = some u := fun j u hj => by
          rw [← hW, cell_new, if_pos rfl]; simpa [En.cells] using hj
        rw [hW]
        have h0 := h.only o0 (by simp) (by simp) (by simp)
        have hown0 := own_kept hown o0 (by simp)
        simp only [List.length_cons, List.length_append] at hbig
        refine grow_ok (t := 322) (e := 377) (ti := ti377) rfl rfl rfl (by simp [ti377]) rfl hown0 (news := (el l k).cells) rfl hb3 (by simp [En.cells, Value.oneCell']) (by have := maxLen_big; omega) (by show (xs.length + 1) * 24 ≤ 140737488355328; omega) fun g1' cap w1 r1 r2 r3 => ⟨_, _, _, rfl, ?_⟩
        have hWs := o0.size
        have sep1 : ∀ g, (Value.slice (some ⟨g1', 0, none⟩) (xs.length + 1) cap).ownBlock = some g → g ≠ hb ∧ g ≠ ab ∧ ob ≠ some g := fun g' hg' => by
          have : g1' = g' := by simpa [Value.ownBlock] using hg'
          subst this
          rcases r3 with r3 | r3
          · exact hsep _ r3
          · have := h.lt_hb
            have := h.lt_ab
            refine ⟨by omega, by omega, fun hc => ?_⟩
            rw [hob] at hc
            cases hc
            omega
        have hS : ∀ b, b ∈ (Value.slice a xs.length c).ownBlock.toList → b ≠ hb ∧ b ≠ ab ∧ ob ≠ some b := fun b hb => hsep b (by simpa using hb)
        have h1 : HeapAt w1 hb ab ob n l at_ := h0.only r2 (fun hc => (hS _ hc).1 rfl) (fun hc => (hS _ hc).2.1 rfl) (fun b hb hc => (hS _ hc).2.2 hb)
        rw [wrap_c1 (by omega), wrap_c3 (by omega)]
        have el1 : (xs ++ [el l k]).length = xs.length + 1 := by simp
        have ef1 : (xs ++ [el l k]).flatMap En.cells = xs.flatMap En.cells ++ (el l k).cells := by simp
        rw [← el1, ← ef1] at r1
        rw [← el1] at sep1 ⊢
        refine ih (2 * k + 1) (by omega) h1 hlen (by omega) r1 sep1 (by rw [el1]; omega) fun w2 a2 c2 s1 s2 s3 => ⟨_, _, _, rfl, ?_⟩
        have sep2 : ∀ g, (Value.slice a2 ((xs ++ [el l k]) ++ belowL l x (2 * k + 1)).length c2).ownBlock = some g → g ≠ hb ∧ g ≠ ab ∧ ob ≠ some g := fun g' hg' => by
          rcases s3 g' hg' with s3 | s3
          · exact sep1 g' s3
          · have := h1.lt_hb
            have := h1.lt_ab
            refine ⟨by omega, by omega, fun hc => ?_⟩
            rw [hob] at hc
            cases hc
            have := r2.size
            omega
        have hS2 : ∀ b, b ∈ (Value.slice (some ⟨g1', 0, none⟩) (xs ++ [el l k]).length cap).ownBlock.toList → b ≠ hb ∧ b ≠ ab ∧ ob ≠ some b := fun b hb => sep1 b (by simpa using hb)
        have h2 : HeapAt w2 hb ab ob n l at_ := h1.only s1 (fun hc => (hS2 _ hc).1 rfl) (fun hc => (hS2 _ hc).2.1 rfl) (fun b hb hc => (hS2 _ hc).2.2 hb)
        have efin : (xs ++ [el l k]) ++ belowL l x (2 * k + 1) ++ belowL l x (2 * k + 2) = xs ++ (el l k :: (belowL l x (2 * k + 1) ++ belowL l x (2 * k + 2))) := by simp
        refine ih (2 * k + 2) (by omega) h2 hlen (by omega) s2 sep2 (by rw [List.length_append, el1]; omega) fun w3 a3 c3 t1 t2 t3 => ⟨_, _, _, rfl, ?_⟩
        simp only [m_heap_Heap_below_c3_o]
        rw [efin] at t2 t3 ⊢
        have hch : ∀ g, (Value.slice (some ⟨g1', 0, none⟩) (xs ++ [el l k]).length cap).ownBlock = some g → (Value.slice a xs.length c).ownBlock = some g ∨ w.heap.size ≤ g := fun g' hg' => by
          have : g1' = g' := by simpa [Value.ownBlock] using hg'
          subst this
          exact r3.imp id fun h => by omega
        have hr2s := r2.size
        have hs1s := s1.size
        have hch2 : ∀ g, (Value.slice a2 ((xs ++ [el l k]) ++ belowL l x (2 * k + 1)).length c2).ownBlock = some g → (Value.slice a xs.length c).ownBlock = some g ∨ w.heap.size ≤ g := fun g' hg' => by
          rcases s3 g' hg' with h' | h'
          · exact hch g' h'
          · exact .inr (by omega)
        have o1 := (o0.mono (T := (Value.slice a xs.length c).ownBlock.toList) (by simp)).trans r2
        have o2 := o1.trans_new s1 fun b hb => (hch b (by simpa using hb)).imp (fun h => by simpa using h) id
        have o3 := o2.trans_new t1 fun b hb => (hch2 b (by simpa using hb)).imp (fun h => by simpa using h) id
        refine hK w3 a3 c3 o3 t2 fun g' hg' => ?_
        rcases t3 g' hg' with h' | h'
        · exact hch2 g' h'
        · exact .inr (by omega)

end Go.M

/-
  DERIVED: THE SHELF's CONTRACTS AT THIS DUMP, IN PLAIN WORDS (tools/lay-plain.mjs out of 'TryzShelf.lean', which tools/lay-shelf.mjs wrote): THE SAME DECLARATIONS UNDER THE SAME NAMES: 'import', 'namespace', 'open', 'def', 'theorem' AND NOTHING ELSE: no command of the shelf's: FOR A HAND-IN. Each laying: the table of numbers ('.._ren') and one theorem, a field a fact of the dump's own or the kernel's comparison; each contract: ONE APPLICATION.
-/
namespace Go.Proofs
open Go.Shelf
def Tryz.sortEn_ren : Go.Shelf.Ren := ⟨fun | 6 => 236 | 15 => 257 | 14 => 256 | 28 => 280 | 29 => 281 | 20 => 272 | 21 => 273 | 22 => 274 | 23 => 275 | 24 => 276 | 25 => 277 | 26 => 278 | 27 => 279 | 46 => 290 | 47 => 291 | 48 => 292 | 49 => 293 | 50 => 294 | 57 => 296 | n => n, fun | 22 => 322 | 24 => 377 | 25 => 387 | 3 => 3 | 39 => 374 | 0 => 0 | 53 => 349 | 55 => 40 | 4 => 4 | 46 => 419 | 45 => 418 | 50 => 181 | 5 => 5 | 9 => 9 | 66 => 432 | 70 => 435 | 76 => 439 | 77 => 440 | n => n, fun | n => n⟩
theorem Tryz.sortEn : Go.Proofs.SlLaysF0.n6 Tryz.prog Tryz.sortEn_ren := {
  mixed := by kernel_rfl
  f6 := ⟨Tryz.f236.name, by decide, Tryz.func236.trans (congrArg some (by kernel_rfl))⟩
  f14 := ⟨Tryz.f256.name, by decide, Tryz.func256.trans (congrArg some (by kernel_rfl))⟩
  f15 := Tryz.func257.trans (congrArg some (by kernel_rfl))
  f20 := ⟨Tryz.f272.name, by decide, Tryz.func272.trans (congrArg some (by kernel_rfl))⟩
  f21 := ⟨Tryz.f273.name, by decide, Tryz.func273.trans (congrArg some (by kernel_rfl))⟩
  f22 := ⟨Tryz.f274.name, by decide, Tryz.func274.trans (congrArg some (by kernel_rfl))⟩
  f23 := ⟨Tryz.f275.name, by decide, Tryz.func275.trans (congrArg some (by kernel_rfl))⟩
  f24 := ⟨Tryz.f276.name, by decide, Tryz.func276.trans (congrArg some (by kernel_rfl))⟩
  f25 := ⟨Tryz.f277.name, by decide, Tryz.func277.trans (congrArg some (by kernel_rfl))⟩
  f26 := ⟨Tryz.f278.name, by decide, Tryz.func278.trans (congrArg some (by kernel_rfl))⟩
  f27 := ⟨Tryz.f279.name, by decide, Tryz.func279.trans (congrArg some (by kernel_rfl))⟩
  f28 := Tryz.func280.trans (congrArg some (by kernel_rfl))
  f29 := Tryz.func281.trans (congrArg some (by kernel_rfl))
  f46 := ⟨Tryz.f290.name, by decide, Tryz.func290.trans (congrArg some (by kernel_rfl))⟩
  f47 := Tryz.func291.trans (congrArg some (by kernel_rfl))
  f48 := Tryz.func292.trans (congrArg some (by kernel_rfl))
  f49 := ⟨Tryz.f293.name, by decide, Tryz.func293.trans (congrArg some (by kernel_rfl))⟩
  f50 := ⟨Tryz.f294.name, by decide, Tryz.func294.trans (congrArg some (by kernel_rfl))⟩
  f57 := ⟨Tryz.f296.name, by decide, Tryz.func296.trans (congrArg some (by kernel_rfl))⟩
  t0 := Tryz.underlying0
  a0 := Tryz.isAgg0
  z0 := Tryz.sizeOf0
  v0 := Tryz.zeroValue0
  t3 := Tryz.underlying3
  a3 := Tryz.isAgg3
  z3 := Tryz.sizeOf3
  v3 := Tryz.zeroValue3
  t4 := Tryz.underlying4
  a4 := Tryz.isAgg4
  z4 := Tryz.sizeOf4
  v4 := Tryz.zeroValue4
  t5 := Tryz.underlying5
  a5 := Tryz.isAgg5
  z5 := Tryz.sizeOf5
  v5 := Tryz.zeroValue5
  t9 := Tryz.underlying9
  a9 := Tryz.isAgg9
  z9 := Tryz.sizeOf9
  v9 := Tryz.zeroValue9
  t22 := Tryz.underlying322
  a22 := Tryz.isAgg322
  z22 := Tryz.sizeOf322
  v22 := Tryz.zeroValue322
  t25 := Tryz.underlying387
  a25 := Tryz.isAgg387
  z25 := Tryz.sizeOf387
  v25 := Tryz.zeroValue387
  t39 := Tryz.underlying374
  a39 := Tryz.isAgg374
  z39 := Tryz.sizeOf374
  v39 := Tryz.zeroValue374
  t45 := Tryz.underlying418
  a45 := Tryz.isAgg418
  z45 := Tryz.sizeOf418
  v45 := Tryz.zeroValue418
  t46 := Tryz.underlying419
  a46 := Tryz.isAgg419
  z46 := Tryz.sizeOf419
  v46 := Tryz.zeroValue419
  t50 := Tryz.underlying181
  a50 := Tryz.isAgg181
  z50 := Tryz.sizeOf181
  v50 := Tryz.zeroValue181
  t53 := Tryz.underlying349
  a53 := Tryz.isAgg349
  z53 := Tryz.sizeOf349
  v53 := Tryz.zeroValue349
  t55 := Tryz.underlying40
  a55 := Tryz.isAgg40
  z55 := Tryz.sizeOf40
  v55 := Tryz.zeroValue40
  t66 := Tryz.underlying432
  a66 := Tryz.isAgg432
  z66 := Tryz.sizeOf432
  v66 := Tryz.zeroValue432
  t70 := Tryz.underlying435
  a70 := Tryz.isAgg435
  z70 := Tryz.sizeOf435
  v70 := Tryz.zeroValue435
  t76 := Tryz.underlying439
  a76 := Tryz.isAgg439
  z76 := Tryz.sizeOf439
  v76 := Tryz.zeroValue439
  t77 := Tryz.underlying440
  a77 := Tryz.isAgg440
  z77 := Tryz.sizeOf440
  v77 := Tryz.zeroValue440 }
def Tryz.lays128_ren : Go.Shelf.Ren := ⟨fun | 128 => 280 | n => n, fun | 51 => 349 | 3 => 3 | 4 => 4 | 46 => 374 | 5 => 5 | 9 => 9 | n => n, fun | n => n⟩
theorem Tryz.lays128 : Go.Proofs.Lays.n128 Tryz.prog Tryz.lays128_ren := {
  mixed := by kernel_rfl
  f128 := Tryz.func280.trans (congrArg some (by kernel_rfl))
  t3 := Tryz.underlying3
  a3 := Tryz.isAgg3
  z3 := Tryz.sizeOf3
  v3 := Tryz.zeroValue3
  t4 := Tryz.underlying4
  a4 := Tryz.isAgg4
  z4 := Tryz.sizeOf4
  v4 := Tryz.zeroValue4
  t5 := Tryz.underlying5
  a5 := Tryz.isAgg5
  z5 := Tryz.sizeOf5
  v5 := Tryz.zeroValue5
  t9 := Tryz.underlying9
  a9 := Tryz.isAgg9
  z9 := Tryz.sizeOf9
  v9 := Tryz.zeroValue9
  t46 := Tryz.underlying374
  a46 := Tryz.isAgg374
  z46 := Tryz.sizeOf374
  v46 := Tryz.zeroValue374
  t51 := Tryz.underlying349
  a51 := Tryz.isAgg349
  z51 := Tryz.sizeOf349
  v51 := Tryz.zeroValue349 }
/-- bits.Len32: "Len32 returns the minimum number of bits required to represent x; the result is 0 for x == 0.": IT RETURNS 'Lib.bitLen x'; the world is as it was. ('h0', 'h1': x is a uint32.) (LAID: no walk: one application.) -/
theorem Tryz.bits_Len32 (x : Int) (w : World) (h0 : 0 ≤ x) (h1 : x ≤ 4294967295) :
    Calls Tryz.prog 280 #[.int .u32 x] w fun e w' => e = .returned (.int .i64 (Lib.bitLen x.toNat)) ∧ w' = w := Any.bits_Len32 Tryz.lays128 x w h0 h1
def Tryz.lays125_ren : Go.Shelf.Ren := ⟨fun | 125 => 257 | 128 => 280 | 129 => 281 | n => n, fun | 46 => 374 | 3 => 3 | 51 => 349 | 53 => 40 | 4 => 4 | 5 => 5 | 9 => 9 | n => n, fun | n => n⟩
theorem Tryz.lays125 : Go.Proofs.Lays.n125 Tryz.prog Tryz.lays125_ren := {
  mixed := by kernel_rfl
  f125 := Tryz.func257.trans (congrArg some (by kernel_rfl))
  f128 := Tryz.func280.trans (congrArg some (by kernel_rfl))
  f129 := Tryz.func281.trans (congrArg some (by kernel_rfl))
  t3 := Tryz.underlying3
  a3 := Tryz.isAgg3
  z3 := Tryz.sizeOf3
  v3 := Tryz.zeroValue3
  t4 := Tryz.underlying4
  a4 := Tryz.isAgg4
  z4 := Tryz.sizeOf4
  v4 := Tryz.zeroValue4
  t5 := Tryz.underlying5
  a5 := Tryz.isAgg5
  z5 := Tryz.sizeOf5
  v5 := Tryz.zeroValue5
  t9 := Tryz.underlying9
  a9 := Tryz.isAgg9
  z9 := Tryz.sizeOf9
  v9 := Tryz.zeroValue9
  t46 := Tryz.underlying374
  a46 := Tryz.isAgg374
  z46 := Tryz.sizeOf374
  v46 := Tryz.zeroValue374
  t51 := Tryz.underlying349
  a51 := Tryz.isAgg349
  z51 := Tryz.sizeOf349
  v51 := Tryz.zeroValue349
  t53 := Tryz.underlying40
  a53 := Tryz.isAgg40
  z53 := Tryz.sizeOf40
  v53 := Tryz.zeroValue40 }
/-- bits.Len: "Len returns the minimum number of bits required to represent x; the result is 0 for x == 0.": IT RETURNS 'Lib.bitLen x'; the world is as it was. (A uint has 64 bits in the model.) ITS CALLEE bits.Len64 IS MET BY ITS OWN CONTRACT OFF THE SHELF (lay that first). (LAID: no walk: one application.) -/
theorem Tryz.bits_Len (x : Int) (w : World) (h0 : 0 ≤ x) (h1 : x ≤ 18446744073709551615) :
    Calls Tryz.prog 257 #[.int .u64 x] w fun e w' => e = .returned (.int .i64 (Lib.bitLen x.toNat)) ∧ w' = w := Any.bits_Len Tryz.lays125 x w h0 h1
def Tryz.lays134_ren : Go.Shelf.Ren := ⟨fun | 134 => 295 | 129 => 281 | n => n, fun | 53 => 40 | 3 => 3 | 4 => 4 | 46 => 374 | 5 => 5 | 9 => 9 | n => n, fun | n => n⟩
theorem Tryz.lays134 : Go.Proofs.Lays.n134 Tryz.prog Tryz.lays134_ren := {
  mixed := by kernel_rfl
  f129 := Tryz.func281.trans (congrArg some (by kernel_rfl))
  f134 := Tryz.func295.trans (congrArg some (by kernel_rfl))
  t3 := Tryz.underlying3
  a3 := Tryz.isAgg3
  z3 := Tryz.sizeOf3
  v3 := Tryz.zeroValue3
  t4 := Tryz.underlying4
  a4 := Tryz.isAgg4
  z4 := Tryz.sizeOf4
  v4 := Tryz.zeroValue4
  t5 := Tryz.underlying5
  a5 := Tryz.isAgg5
  z5 := Tryz.sizeOf5
  v5 := Tryz.zeroValue5
  t9 := Tryz.underlying9
  a9 := Tryz.isAgg9
  z9 := Tryz.sizeOf9
  v9 := Tryz.zeroValue9
  t46 := Tryz.underlying374
  a46 := Tryz.isAgg374
  z46 := Tryz.sizeOf374
  v46 := Tryz.zeroValue374
  t53 := Tryz.underlying40
  a53 := Tryz.isAgg40
  z53 := Tryz.sizeOf40
  v53 := Tryz.zeroValue40 }
/-- bits.LeadingZeros64: "LeadingZeros64 returns the number of leading zero bits in x; the result is 64 for x == 0.": IT RETURNS '64 - Lib.bitLen x'; the world is as it was. ITS CALLEE bits.Len64 IS MET BY ITS OWN CONTRACT OFF THE SHELF (lay that first): entered in place it sends the kernel out of memory. (LAID: no walk: one application.) -/
theorem Tryz.bits_LeadingZeros64 (x : Int) (w : World) (h0 : 0 ≤ x) (h1 : x ≤ 18446744073709551615) :
    Calls Tryz.prog 295 #[.int .u64 x] w fun e w' => e = .returned (.int .i64 (64 - (Lib.bitLen x.toNat : Int))) ∧ w' = w := Any.bits_LeadingZeros64 Tryz.lays134 x w h0 h1
def Tryz.lays129_ren : Go.Shelf.Ren := ⟨fun | 129 => 281 | n => n, fun | 53 => 40 | 3 => 3 | 4 => 4 | 46 => 374 | 5 => 5 | 9 => 9 | n => n, fun | n => n⟩
theorem Tryz.lays129 : Go.Proofs.Lays.n129 Tryz.prog Tryz.lays129_ren := {
  mixed := by kernel_rfl
  f129 := Tryz.func281.trans (congrArg some (by kernel_rfl))
  t3 := Tryz.underlying3
  a3 := Tryz.isAgg3
  z3 := Tryz.sizeOf3
  v3 := Tryz.zeroValue3
  t4 := Tryz.underlying4
  a4 := Tryz.isAgg4
  z4 := Tryz.sizeOf4
  v4 := Tryz.zeroValue4
  t5 := Tryz.underlying5
  a5 := Tryz.isAgg5
  z5 := Tryz.sizeOf5
  v5 := Tryz.zeroValue5
  t9 := Tryz.underlying9
  a9 := Tryz.isAgg9
  z9 := Tryz.sizeOf9
  v9 := Tryz.zeroValue9
  t46 := Tryz.underlying374
  a46 := Tryz.isAgg374
  z46 := Tryz.sizeOf374
  v46 := Tryz.zeroValue374
  t53 := Tryz.underlying40
  a53 := Tryz.isAgg40
  z53 := Tryz.sizeOf40
  v53 := Tryz.zeroValue40 }
/-- bits.Len64: "Len64 returns the minimum number of bits required to represent x; the result is 0 for x == 0.": IT RETURNS 'Lib.bitLen x'; the world is as it was. ('h0', 'h1': x is a uint64.) (LAID: no walk: one application.) -/
theorem Tryz.bits_Len64 (x : Int) (w : World) (h0 : 0 ≤ x) (h1 : x ≤ 18446744073709551615) :
    Calls Tryz.prog 281 #[.int .u64 x] w fun e w' => e = .returned (.int .i64 (Lib.bitLen x.toNat)) ∧ w' = w := Any.bits_Len64 Tryz.lays129 x w h0 h1
def Tryz.lays264_ren : Go.Shelf.Ren := ⟨fun | 264 => 268 | n => n, fun | 53 => 40 | 46 => 374 | n => n, fun | n => n⟩
theorem Tryz.lays264 : Go.Proofs.Lays.n264 Tryz.prog Tryz.lays264_ren := {
  mixed := by kernel_rfl
  f264 := Tryz.func268.trans (congrArg some (by kernel_rfl))
  t46 := Tryz.underlying374
  a46 := Tryz.isAgg374
  z46 := Tryz.sizeOf374
  v46 := Tryz.zeroValue374
  t53 := Tryz.underlying40
  a53 := Tryz.isAgg40
  z53 := Tryz.sizeOf40
  v53 := Tryz.zeroValue40 }
open Go.RowKit Go.Lib in
theorem Tryz.bits_Mul64 (x y : Nat) (hx : x < 18446744073709551616) (hy : y < 18446744073709551616) (w : World) :
    Calls Tryz.prog 268 #[.int .u64 x, .int .u64 y] w fun e w' => e = .returned (.tuple #[.int .u64 ((x * y / 18446744073709551616 : Nat) : Int), .int .u64 ((x * y % 18446744073709551616 : Nat) : Int)]) ∧ w' = w := Any.bits_Mul64 Tryz.lays264 x y hx hy w
end Go.Proofs

/- What the functions of the queue do: who is due, where nobody is. -/
set_option linter.all false
set_option linter.constructorNameAsVariable false
set_option maxRecDepth 100000
namespace Go.M
open Go Go.Eng Go.RowKit

variable {w w' : World} {K : Value → World → Prop} {d : QIds} {n nt : Nat} {T : Int} {rows : Nat → List (Int × Rq)}

theorem sort_nil {p : Option Addr} {cap : Nat} {fv : Value} {w : World} {K : Value → World → Prop} (hK : K (.tuple #[]) w) : CallsV P 236 #[.slice p 0 cap, fv] w K := by
  have h := Go.Proofs.AnyF.slices_SortFunc_none Go.Proofs.Tryz.sortEn p cap fv w
  exact h.mono fun e w' ⟨he, hw⟩ => ⟨_, he, by rw [hw]; exact hK⟩

theorem heapDue_nil {hb ab n : Nat} {ob : Option Nat} {l : List En} {at_ : Nat → Int} (h : HeapAt w hb ab ob n l at_) (hlen : l.length ≤ 1024) {x : Int} (hx : belowL l x 0 = []) (hK : ∀ w', Only [] w w' → K (.slice none 0 0) w') :
    CallsV P 199 #[.pointer (some ⟨hb, 0, none⟩), .int .i64 x] w K := by
  refine m_heap_Heap_Due_ok ?_
  unfold m_heap_Heap_Due
  refine if_no (by simp) ?_
  refine below_ok (xs := []) (a := none) (c := 0) x l.length 0 (by omega) h hlen (by omega) (World.ownsRow_nil _ _ _ _) (fun g hg => by simp [Value.ownBlock] at hg) (by rw [hx]; simp) fun w1 a' c' o1 h1 _ => ⟨_, _, _, rfl, ?_⟩
  rw [hx]
  refine sort_nil ⟨rfl, ?_⟩
  have o1' : Only [] w w1 := o1.mono (by simp [Value.ownBlock])
  refine ⟨1, ?_⟩
  show m_heap_Heap_Due_l506 _ _ _ _
  unfold m_heap_Heap_Due_l506
  simp only
  exact if_no (by simp) (by simpa [m_heap_Heap_Due_l506_o] using hK w1 o1')

theorem qDue_nil (h : QV w d n nt T rows) {now : Int} (hno : ∀ t, t < nt → ∀ x r, (x, r) ∈ rows t → now < r.deadline) (hK : ∀ w', Only [] w w' → K (.slice none 0 0) w') : CallsV P 145 #[.pointer (some ⟨d.qb, 0, none⟩), .int .i64 now] w K := by
  obtain ⟨q, R, h1, h2, rfl, rfl, h3⟩ := h.ex
  refine m_tierq_Queue_Due_ok ?_
  unfold m_tierq_Queue_Due
  refine if_no (by simp) (nn_some ?_)
  simp only [addr_add, Nat.add_zero, Nat.zero_add]
  have hb : belowL q.l now 0 = [] := by
    unfold belowL
    cases hI : belowI (el q.l) q.l.length now 0 with
    | nil => rfl
    | cons j js =>
      have hm := (belowI_mem (x := now) h2.heap q.l.length 0 j (by omega)).1 (by rw [hI]; simp)
      obtain ⟨_, hj, hkey⟩ := hm
      have hin : InH (el q.l) q.l.length (el q.l j) := ⟨j, hj, rfl⟩
      have hilt := h2.hinv.lt j hj
      have htk := (h2.ta _ hilt).2 ⟨_, hin, rfl⟩
      obtain ⟨t, ht, hit⟩ := h2.find h1.n_rows hilt htk
      have := hno t ht (q.handles (el q.l j).i) (q.slab.req (el q.l j).i) (by rw [h3 t, if_pos ht]; exact List.mem_map.2 ⟨_, hit, rfl⟩)
      have hent := (h2.ent _ hin).1
      have : now < q.slab.deadline (el q.l j).i := this
      omega
  refine ld_ptr h1.q2 (heapDue_nil h1.heap h2.hlen hb fun w1 o1 => ⟨_, _, _, rfl, ?_⟩)
  refine ⟨1, ?_⟩
  show m_tierq_Queue_Due_l122 _ _ _ _
  unfold m_tierq_Queue_Due_l122
  simp only
  exact if_no (by simp) (by simpa [m_tierq_Queue_Due_l122_o] using hK w1 o1)

end Go.M

/- What the functions of the core do: the parts of a core. -/
set_option linter.all false
set_option linter.constructorNameAsVariable false
set_option maxRecDepth 100000
namespace Go.M
open Go Go.Eng Go.RowKit

variable {w w' : World} {d : CIds} {h h' : CoreHM} {n : Nat} {T : Int} {rows : Nat → List (Int × Rq)} {log : List Oc} {K : Value → World → Prop} {c : Cf}

structure CIds.Ne (d : CIds) : Prop where
  cb_tb : d.cb ≠ d.tb
  cb_lb : d.cb ≠ d.lb
  tb_lb : d.tb ≠ d.lb
  cb_lo : d.lo ≠ some d.cb
  tb_lo : d.lo ≠ some d.tb
  lb_lo : d.lo ≠ some d.lb
  cb_q : d.cb ∉ d.q.list
  tb_q : d.tb ∉ d.q.list
  lb_q : d.lb ∉ d.q.list
  lo_q : ∀ g, d.lo = some g → g ∉ d.q.list

theorem CIds.ne (d : CIds) (nd : d.list.Nodup) : d.Ne := by
  unfold CIds.list at nd
  obtain ⟨n1, nd⟩ := List.nodup_cons.1 nd
  obtain ⟨n2, nd⟩ := List.nodup_cons.1 nd
  obtain ⟨n3, nd⟩ := List.nodup_cons.1 nd
  obtain ⟨_, _, n4⟩ := List.nodup_append.1 nd
  simp only [List.mem_cons, List.mem_append, Option.mem_toList, not_or] at n1 n2 n3
  exact ⟨n1.1, n1.2.1, n2.1, n1.2.2.1, n2.2.1, n3.1, n1.2.2.2, n2.2.2, n3.2, fun g hg hc => n4 g (by rw [hg]; simp) g hc rfl⟩

theorem CAt.hdTo (a : CAt w d h n T rows log) (ho : Only [d.cb, d.tb] w w') (hh : CoreHAt w' d.cb d.tb h') (hq : h'.q = h.q) (hl : h'.lg = h.lg) (hn : h'.n = h.n) : CAt w' d h' n T rows log := by
  have ne := d.ne a.nd
  have hv : QV w' d.q n h.n T rows := a.qv.only ho fun b hb hc => by
    simp only [List.mem_cons, List.not_mem_nil, or_false] at hc
    rcases hc with rfl | rfl
    · exact ne.cb_q hb
    · exact ne.tb_q hb
  rw [← hn] at hv
  refine ⟨hh, hq.trans a.hq, hl.trans a.hlg, hv, a.lg.only ho ?_ fun b hb hc => ?_, a.nd⟩
  · simp only [List.mem_cons, List.not_mem_nil, or_false, not_or]
    exact ⟨Ne.symm ne.cb_lb, Ne.symm ne.tb_lb⟩
  · simp only [List.mem_cons, List.not_mem_nil, or_false] at hc
    rcases hc with rfl | rfl
    · exact ne.cb_lo hb
    · exact ne.tb_lo hb

theorem CAt.qTo (a : CAt w d h n T rows log) (ho : Only d.q.list w w') {q' : QIds} {T' : Int} {rows' : Nat → List (Int × Rq)} (hv : QV w' q' n h.n T' rows') (hqb : q'.qb = d.q.qb) (hnew : ∀ b ∈ q'.list, b ∈ d.q.list ∨ w.heap.size ≤ b) : CAt w' { d with q := q' } h n T' rows' log := by
  have ne := d.ne a.nd
  have lt := a.lt
  refine ⟨a.hd.only ho ne.cb_q ne.tb_q, by rw [a.hq, ← hqb], a.hlg, hv, a.lg.only ho ne.lb_q (fun g hg => ne.lo_q g hg), ?_⟩
  have nd := a.nd
  unfold CIds.list at nd ⊢
  have key : ∀ b, b < w.heap.size → b ∉ d.q.list → b ∉ q'.list := fun b hb h1 h2 => by
    rcases hnew b h2 with h3 | h3
    · exact h1 h3
    · omega
  obtain ⟨n1, nd⟩ := List.nodup_cons.1 nd
  obtain ⟨n2, nd⟩ := List.nodup_cons.1 nd
  obtain ⟨n3, nd⟩ := List.nodup_cons.1 nd
  obtain ⟨n5, _, n4⟩ := List.nodup_append.1 nd
  simp only [List.mem_cons, List.mem_append, not_or] at n1 n2 n3
  refine List.nodup_cons.2 ⟨?_, List.nodup_cons.2 ⟨?_, List.nodup_cons.2 ⟨?_, List.nodup_append.2 ⟨n5, hv.nodup, fun x hx y hy e => ?_⟩⟩⟩⟩
  · simp only [List.mem_cons, List.mem_append, not_or]
    exact ⟨n1.1, n1.2.1, n1.2.2.1, key _ (lt _ (by simp [CIds.list])) n1.2.2.2⟩
  · simp only [List.mem_cons, List.mem_append, not_or]
    exact ⟨n2.1, n2.2.1, key _ (lt _ (by simp [CIds.list])) n2.2.2⟩
  · simp only [List.mem_append, not_or]
    exact ⟨n3.1, key _ (lt _ (by simp [CIds.list])) n3.2⟩
  · subst e
    have hx' : d.lo = some x := by simpa using hx
    exact key x (lt x (by simp [CIds.list, hx'])) (ne.lo_q x hx') hy

theorem CAt.lgTo (a : CAt w d h n T rows log) (ho : Only (d.lb :: d.lo.toList) w w') {lo' : Option Nat} {log' : List Oc} (hl : LogAt w' d.lb lo' log') (hnew : ∀ g, lo' = some g → d.lo = some g ∨ w.heap.size ≤ g) : CAt w' { d with lo := lo' } h n T rows log' := by
  have ne := d.ne a.nd
  have lt := a.lt
  have m : ∀ b, b ≠ d.lb → d.lo ≠ some b → b ∉ d.lb :: d.lo.toList := fun b h1 h2 => by simp [h1, h2]
  refine ⟨a.hd.only ho (m _ ne.cb_lb ne.cb_lo) (m _ ne.tb_lb ne.tb_lo), a.hq, a.hlg, a.qv.only ho fun b hb => m b (fun e => ne.lb_q (e ▸ hb)) (fun e => ne.lo_q b e hb), hl, ?_⟩
  have nd := a.nd
  unfold CIds.list at nd ⊢
  obtain ⟨n1, nd⟩ := List.nodup_cons.1 nd
  obtain ⟨n2, nd⟩ := List.nodup_cons.1 nd
  obtain ⟨n3, nd⟩ := List.nodup_cons.1 nd
  obtain ⟨_, n5, n4⟩ := List.nodup_append.1 nd
  simp only [List.mem_cons, List.mem_append, Option.mem_toList, not_or] at n1 n2 n3
  have key : ∀ b, b ∈ d.list → d.lo ≠ some b → lo' ≠ some b := fun b hb h1 h2 => by
    rcases hnew b h2 with h3 | h3
    · exact h1 h3
    · have := lt b hb; omega
  refine List.nodup_cons.2 ⟨?_, List.nodup_cons.2 ⟨?_, List.nodup_cons.2 ⟨?_, List.nodup_append.2 ⟨?_, n5, fun x hx y hy e => ?_⟩⟩⟩⟩
  · simp only [List.mem_cons, List.mem_append, Option.mem_toList, not_or]
    exact ⟨n1.1, n1.2.1, key _ (by simp [CIds.list]) n1.2.2.1, n1.2.2.2⟩
  · simp only [List.mem_cons, List.mem_append, Option.mem_toList, not_or]
    exact ⟨n2.1, key _ (by simp [CIds.list]) n2.2.1, n2.2.2⟩
  · simp only [List.mem_append, Option.mem_toList, not_or]
    exact ⟨key _ (by simp [CIds.list]) n3.1, n3.2⟩
  · cases lo' <;> simp
  · subst e
    have hx' : lo' = some x := by simpa using hx
    exact key x (by simp [CIds.list, hy]) (fun e => ne.lo_q x e hy) hx'

/-! ### Results and calls in blocks -/
def Rs.cells (r : Rs) : List Value := [.int .u8 r.answer, .int .u64 r.ticket, .int .i64 r.tier, .int .i64 r.cohort, .int .i64 r.sojourn]
theorem Rs.v_eq (r : Rs) : r.v = .agg #[.int .u8 r.answer, .int .u64 r.ticket, .int .i64 r.tier, .int .i64 r.cohort, .int .i64 r.sojourn] := rfl

theorem res_store {S : List Nat} {w0 wb w : World} {b : Nat} {r0 : Rs} (h : Rec S w0 wb w b r0.cells) (r : Rs) {k : World → Prop} (hk : ∀ w', Rec S w0 wb w' b r.cells → k w') :
    St ⟨b, 0, none⟩ (.int .u8 r.answer) w fun w => St ⟨b, 1, none⟩ (.int .u64 r.ticket) w fun w => St ⟨b, 2, none⟩ (.int .i64 r.tier) w fun w => St ⟨b, 3, none⟩ (.int .i64 r.cohort) w fun w => St ⟨b, 4, none⟩ (.int .i64 r.sojourn) w k :=
  h.st (by simp [Rs.cells]) fun _ h => h.st (by simp [Rs.cells]) fun _ h => h.st (by simp [Rs.cells]) fun _ h => h.st (by simp [Rs.cells]) fun _ h => h.st (by simp [Rs.cells]) fun _ h => hk _ h

theorem res_load {S : List Nat} {w0 wb w : World} {b : Nat} {r : Rs} (h : Rec S w0 wb w b r.cells) {k : Int → Int → Int → Int → Int → Prop} (hk : k r.answer r.ticket r.tier r.cohort r.sojourn) :
    ∃ n0 : Int, w.cell? ⟨b, 0, none⟩ = some (.int .u8 n0) ∧ ∃ n1 : Int, w.cell? ⟨b, 1, none⟩ = some (.int .u64 n1) ∧ ∃ n2 : Int, w.cell? ⟨b, 2, none⟩ = some (.int .i64 n2) ∧ ∃ n3 : Int, w.cell? ⟨b, 3, none⟩ = some (.int .i64 n3) ∧ ∃ n4 : Int, w.cell? ⟨b, 4, none⟩ = some (.int .i64 n4) ∧ k n0 n1 n2 n3 n4 :=
  h.int rfl (h.int rfl (h.int rfl (h.int rfl (h.int rfl hk))))

def Opn.cells (o : Opn) : List Value := [.int .u8 o.kind, .int .i64 o.tier, .int .i64 o.cohort, .int .i64 o.num]

/-! ### The core's own loads -/
def CoreHM.cf (h : CoreHM) : Cf := ⟨h.tiers, h.room, h.target, h.interval, h.high, h.low, h.dwell, h.horizon, h.setpoint, h.kp, h.ki, h.kd, h.climit, h.step, h.threads, h.ring⟩

theorem core_cf {cb tb : Nat} (a : CoreHAt w cb tb h) : CfAt w cb h.cf := ⟨a.h_tiers, a.h_room, a.h_target, a.h_interval, a.h_high, a.h_low, a.h_dwell, a.h_horizon, a.h_setpoint, a.h_kp, a.h_ki, a.h_kd, a.h_climit, a.h_step, a.h_threads, a.h_ring⟩

theorem corePid_ok {cb tb : Nat} (a : CoreHAt w cb tb h) (hK : ∀ w', Only [] w w' → K (.agg #[.int .i64 h.psum, .int .i64 h.plast, .int .i64 h.plevel]) w') : CallsV P 175 #[.pointer (some ⟨cb, 0, none⟩)] w K := by
  refine m_core_Core_Pid_ok ?_
  unfold m_core_Core_Pid
  refine al_intro (if_no (by simp) (nn_some ?_))
  have r := Rec.make (S := []) (Only.refl _ w) #[.int .i64 0, .int .i64 0, .int .i64 0] 174
  have a0 := a.only (Only.alloc (S := []) w (.cells #[.int .i64 0, .int .i64 0, .int .i64 0] 174)) (by simp) (by simp)
  simp only [addr_add, Nat.add_zero, Nat.zero_add]
  refine ld_int a0.h_psum (ld_int a0.h_plast (ld_int a0.h_plevel ?_))
  exact r.st (by simp) fun _ r => r.st (by simp) fun _ r => r.st (by simp) fun _ r => r.int rfl (r.int rfl (r.int rfl (hK _ r.only)))

theorem coreLevel_ok {cb tb : Nat} (a : CoreHAt w cb tb h) (hK : ∀ w', Only [] w w' → K (.int .i64 h.plevel) w') : CallsV P 126 #[.pointer (some ⟨cb, 0, none⟩)] w K := by
  refine m_core_Core_Level_ok ?_
  unfold m_core_Core_Level
  exact corePid_ok a fun w1 o1 => ⟨_, _, _, rfl, hK w1 o1⟩

/-- nobody is due, and it does not drain -/
theorem sweep_quiet (a : CAt w d h n T rows log) (hph : h.phase ≠ 1) (hno : ∀ t, t < h.n → ∀ x r, (x, r) ∈ rows t → h.clock < r.deadline) (hK : ∀ w', Only [] w w' → K (.tuple #[]) w') : CallsV P 85 #[.pointer (some ⟨d.cb, 0, none⟩)] w K := by
  refine m_core_Core_sweep_ok ?_
  unfold m_core_Core_sweep
  have oD : Only [] w w.drew := Only.drew w
  have ad := a.only oD (by simp)
  refine nn_some ?_
  simp only [addr_add, Nat.add_zero, Nat.zero_add]
  refine ld_ptr ad.hd.h_q (nn_some ?_)
  rw [ad.hq]
  simp only [addr_add, Nat.add_zero, Nat.zero_add]
  refine ld_int ad.hd.h_clock (qDue_nil ad.qv hno fun w1 o1 => ⟨_, _, _, rfl, ?_⟩)
  have a1 := ad.only o1 (by simp)
  refine ⟨1, ?_⟩
  show m_core_Core_sweep_l10 _ _ _ _
  unfold m_core_Core_sweep_l10
  simp only
  refine if_no (by simp) ?_
  simp only [m_core_Core_sweep_l10_o]
  refine m_core_Core_drained_ok ?_
  unfold m_core_Core_drained
  have o2 : Only [] w1 w1.drew := Only.drew w1
  have a2 := a1.only o2 (by simp)
  refine nn_some ?_
  simp only [addr_add, Nat.add_zero, Nat.zero_add]
  exact ld_int a2.hd.h_phase (if_yes (by simpa using hph) ⟨by first | rfl | trivial, hK _ ((oD.trans o1).trans o2)⟩)

end Go.M
