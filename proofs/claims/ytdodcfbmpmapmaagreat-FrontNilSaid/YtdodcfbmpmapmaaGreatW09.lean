/- Proofs about the front of the overload controller, part 9: C28. -/
import Derived.Test.YtdodcfbmpmapmaaGreatW04
import Derived.Test.YtdodcfbmpmapmaaGreatW07
import Derived.Test.YtdodcfbmpmapmaaGreatW08
set_option linter.all false
set_option linter.constructorNameAsVariable false
set_option linter.unusedVariables false
/- Records in blocks of their own; what a config is asked. -/
set_option linter.all false
set_option linter.constructorNameAsVariable false
set_option maxRecDepth 100000
namespace Go.M
open Go Go.Eng Go.RowKit

/-- a block made since w0, that holds vs; wb: the world in which it was made -/
structure Rec (S : List Nat) (w0 wb w : World) (b : Nat) (vs : List Value) : Prop where
  only : Only S w0 w
  base : Only [b] wb w
  new : w0.heap.size ≤ b
  cell : ∀ i v, vs[i]? = some v → w.cell? ⟨b, i, none⟩ = some v
  z : ∀ i, w.frozen? ⟨b, i, none⟩ = false
  lt : b < w.heap.size

theorem Rec.make {S : List Nat} {w0 w : World} (ho : Only S w0 w) (vs : Array Value) (t : Nat) : Rec S w0 (w.alloc (.cells vs t)) (w.alloc (.cells vs t)) w.heap.size vs.toList :=
  ⟨ho.trans (Only.alloc _ _), Only.refl _ _, ho.size, fun i v hv => by rw [cell_new, if_pos rfl]; simpa using hv, fun i => by simp [frozen_new], by rw [World.size_alloc]; omega⟩

variable {S : List Nat} {w0 wb w w' : World} {b : Nat} {vs : List Value}

theorem Rec.st (h : Rec S w0 wb w b vs) {i : Nat} {v : Value} {k : World → Prop} (hi : i < vs.length) (hk : ∀ w', Rec S w0 wb w' b (vs.set i v) → k w') : St ⟨b, i, none⟩ v w k := by
  have hc := h.cell i vs[i] (by simp [hi])
  refine St_at hc (h.z _) (hk _ ⟨h.only.st (.inr h.new) hc, h.base.st (.inl (by simp)) hc, h.new, fun j u hj => ?_, fun j => (frozen_set _ _ _ _).trans (h.z j), by rw [size_setCell]; exact h.lt⟩)
  rw [List.getElem?_set] at hj
  by_cases e : i = j
  · subst e
    rw [if_pos rfl, if_pos hi] at hj
    cases hj
    exact cell_set_eq hc
  · rw [if_neg e] at hj
    exact (cell_set_ne (.inr (Ne.symm e))).trans (h.cell j u hj)

theorem Rec.int (h : Rec S w0 wb w b vs) {i : Nat} {q : IntKind} {n : Int} {k : Int → Prop} (hv : vs[i]? = some (.int q n)) (hk : k n) : ∃ n : Int, w.cell? ⟨b, i, none⟩ = some (.int q n) ∧ k n := ⟨_, h.cell i _ hv, hk⟩
theorem Rec.bool (h : Rec S w0 wb w b vs) {i : Nat} {n : Bool} {k : Bool → Prop} (hv : vs[i]? = some (.bool n)) (hk : k n) : ∃ n : Bool, w.cell? ⟨b, i, none⟩ = some (.bool n) ∧ k n := ⟨_, h.cell i _ hv, hk⟩
theorem Rec.ptr (h : Rec S w0 wb w b vs) {i : Nat} {n : Option Addr} {k : Option Addr → Prop} (hv : vs[i]? = some (.pointer n)) (hk : k n) : ∃ n : Option Addr, w.cell? ⟨b, i, none⟩ = some (.pointer n) ∧ k n := ⟨_, h.cell i _ hv, hk⟩

theorem Rec.moved (h : Rec S w0 wb w b vs) {T : List Nat} (ho : Only T w w') (hb : b ∉ T) (hT : ∀ x ∈ T, x ∈ S ∨ w0.heap.size ≤ x) : Rec S w0 w' w' b vs :=
  ⟨h.only.trans_new ho hT, Only.refl _ _, h.new, fun i v hv => ho.cell (h.cell i v hv) hb, fun i => (ho.frozen h.lt hb).trans (h.z i), Nat.lt_of_lt_of_le h.lt ho.size⟩

theorem within_ok {n low high : Int} {w : World} {K : Value → World → Prop} (hK : K (.bool (decide (low ≤ n) && decide (n ≤ high))) w) : CallsV P 88 #[.int .i64 n, .int .i64 low, .int .i64 high] w K := by
  refine m_conf_within_ok ?_
  unfold m_conf_within
  by_cases h : low ≤ n
  · exact if_yes (by simpa using h) (by simpa [h] using hK)
  · exact if_no (by simpa using h) (by simpa [h] using hK)

variable {K : Value → World → Prop} {c : Cf}

theorem confMode_ok (hK : ∀ w', Only [] w w' → K (.agg #[.int .i64 c.high, .int .i64 c.low, .int .i64 c.dwell]) w') : CallsV P 89 #[.agg c.cells] w K := by
  refine m_conf_Config_Mode_ok ?_
  unfold m_conf_Config_Mode
  refine al_intro (al_intro ?_)
  have a0 := (cf_new w c 24).only (Only.alloc (S := []) _ (.cells #[.int .i64 0, .int .i64 0, .int .i64 0] 191)) (by simp)
  have r0 := Rec.make (S := []) (w0 := w) (w := w.alloc (.cells c.cells 24)) (Only.alloc _ _) #[.int .i64 0, .int .i64 0, .int .i64 0] 191
  simp only [addr_add, Nat.zero_add]
  refine ld_int a0.c4 (ld_int a0.c5 (ld_int a0.c6 ?_))
  refine r0.st (by simp) fun _ r1 => r1.st (by simp) fun _ r2 => r2.st (by simp) fun w' r3 => r3.int rfl (r3.int rfl (r3.int rfl (hK _ r3.only)))

theorem modeRight_ok {h l dw : Int} (hK : ∀ w', Only [] w w' → K (.bool (decide (0 ≤ l) && (decide (l ≤ h) && decide (0 ≤ dw)))) w') : CallsV P 90 #[.agg #[.int .i64 h, .int .i64 l, .int .i64 dw]] w K := by
  refine m_mode_Params_Right_ok ?_
  unfold m_mode_Params_Right
  refine al_intro ?_
  have r := Rec.make (S := []) (w0 := w) (Only.refl _ w) #[.int .i64 h, .int .i64 l, .int .i64 dw] 191
  have hK' := hK _ r.only
  simp only [addr_add, Nat.zero_add]
  refine r.int rfl ?_
  by_cases h1 : 0 ≤ l
  · refine if_yes (by simpa using h1) (r.int rfl (r.int rfl ?_))
    by_cases h2 : l ≤ h
    · exact if_yes (by simpa using h2) (r.int rfl (by simpa [h1, h2] using hK'))
    · exact if_no (by simpa using h2) (by simpa [h1, h2] using hK')
  · exact if_no (by simpa using h1) (by simpa [h1] using hK')

theorem confPid_ok (ht : i64 (c.tiers * 128)) (hK : ∀ w', Only [] w w' → K (.agg #[.int .i64 c.setpoint, .int .i64 c.kp, .int .i64 c.ki, .int .i64 c.kd, .int .i64 c.limit, .int .i64 c.step, .int .i64 (c.tiers * 128)]) w') : CallsV P 91 #[.agg c.cells] w K := by
  refine m_conf_Config_Pid_ok ?_
  unfold m_conf_Config_Pid
  refine al_intro (al_intro ?_)
  have a0 := ((cf_new w c 24).only (Only.alloc (S := []) _ (.cells #[.int .i64 0, .int .i64 0, .int .i64 0, .int .i64 0, .int .i64 0, .int .i64 0, .int .i64 0] 194)) (by simp)).only (Only.drew (S := []) _) (by simp)
  have r0 := (Rec.make (S := []) (w0 := w) (w := w.alloc (.cells c.cells 24)) (Only.alloc _ _) #[.int .i64 0, .int .i64 0, .int .i64 0, .int .i64 0, .int .i64 0, .int .i64 0, .int .i64 0] 194).moved (Only.drew (S := []) _) (by simp) (by simp)
  simp only [addr_add, Nat.zero_add]
  refine ld_int a0.c8 (ld_int a0.c9 (ld_int a0.c10 (ld_int a0.c11 (ld_int a0.c12 (ld_int a0.c13 (cf_load a0 ⟨_, qOf fun w1 K h => most_ok (c := c) h, fun w2 hb => ?_⟩))))))
  have r1 := r0.moved (onlyBelow hb) (by simp) (by simp)
  have e : IntKind.wrap .i64 (c.tiers * 128) = c.tiers * 128 := IntWalk.i64_in _ (by unfold i64 at ht; omega)
  rw [e]
  exact r1.st (by simp) fun _ r2 => r2.st (by simp) fun _ r3 => r3.st (by simp) fun _ r4 => r4.st (by simp) fun _ r5 => r5.st (by simp) fun _ r6 => r6.st (by simp) fun _ r7 => r7.st (by simp) fun w' r8 =>
    r8.int rfl (r8.int rfl (r8.int rfl (r8.int rfl (r8.int rfl (r8.int rfl (r8.int rfl (hK _ r8.only)))))))

theorem pidRight_ok {s kp ki kd lim st mo : Int} {b : Bool} (hb : b = (decide (0 ≤ kp ∧ 0 ≤ ki ∧ 0 ≤ kd ∧ 0 ≤ lim ∧ 1 ≤ st ∧ 0 ≤ mo))) (hK : ∀ w', Only [] w w' → K (.bool b) w') : CallsV P 92 #[.agg #[.int .i64 s, .int .i64 kp, .int .i64 ki, .int .i64 kd, .int .i64 lim, .int .i64 st, .int .i64 mo]] w K := by
  refine m_pid_Params_Right_ok ?_
  unfold m_pid_Params_Right
  refine al_intro ?_
  have r := Rec.make (S := []) (w0 := w) (Only.refl _ w) #[.int .i64 s, .int .i64 kp, .int .i64 ki, .int .i64 kd, .int .i64 lim, .int .i64 st, .int .i64 mo] 194
  have hK' := hK _ r.only
  subst hb
  simp only [addr_add, Nat.zero_add]
  refine r.int rfl (r.int rfl (r.int rfl (r.int rfl ?_)))
  by_cases h1 : 0 ≤ kp ∧ 0 ≤ ki ∧ 0 ≤ kd ∧ 0 ≤ lim
  · refine if_yes (by simp only [decide_eq_true_eq]; split <;> (try split) <;> (try split) <;> omega) (r.int rfl ?_)
    by_cases h2 : 1 ≤ st
    · refine if_yes (by simpa using h2) (r.int rfl ?_)
      simpa [h1, h2] using hK'
    · exact if_no (by simpa using h2) (by simpa [h1, h2] using hK')
  · refine if_no (by simp only [decide_eq_true_eq]; split <;> (try split) <;> (try split) <;> omega) ?_
    have e : decide (0 ≤ kp ∧ 0 ≤ ki ∧ 0 ≤ kd ∧ 0 ≤ lim ∧ 1 ≤ st ∧ 0 ≤ mo) = false := by simp; omega
    rw [e] at hK'
    exact hK'

/-- may a config be? -/
structure Cf.Ok (c : Cf) : Prop where
  tiers : 1 ≤ c.tiers ∧ c.tiers ≤ 8
  room : 1 ≤ c.room ∧ c.room ≤ 1024
  target : 1 ≤ c.target ∧ c.target ≤ 1099511627776
  interval : 1 ≤ c.interval ∧ c.interval ≤ 1099511627776
  mode : 0 ≤ c.low ∧ c.low ≤ c.high ∧ 0 ≤ c.dwell
  horizon : c.target ≤ c.horizon ∧ c.horizon ≤ 1125899906842624
  pid : 0 ≤ c.kp ∧ 0 ≤ c.ki ∧ 0 ≤ c.kd ∧ 0 ≤ c.limit ∧ 1 ≤ c.step
  threads : 1 ≤ c.threads ∧ c.threads ≤ 16
  ring : 2 ≤ c.ring ∧ c.ring ≤ 64
  pow : bits2 c.ring = 0

theorem valid_ok (hy : c.Ok → ∀ w', Only [] w w' → K (.int .i64 0) w') (hn : ¬ c.Ok → ∀ w', Only [] w w' → K (.int .i64 1) w') : CallsV P 34 #[.agg c.cells] w K := by
  refine m_conf_Config_Valid_ok ?_
  unfold m_conf_Config_Valid
  refine al_intro ?_
  have a0 := cf_new w c 24
  have o0 : Only [] w (w.alloc (.cells c.cells 24)) := Only.alloc _ _
  obtain ⟨W, hW⟩ : ∃ W, w.alloc (.cells c.cells 24) = W := ⟨_, rfl⟩
  rw [hW] at a0 o0
  have e0 : Al c.cells 24 w = Al c.cells 24 w := rfl
  show _
  simp only [Cf.cells] at hW
  rw [hW]
  simp only [addr_add, Nat.zero_add]
  refine ld_int a0.c0 (within_ok ⟨_, rfl, ?_⟩)
  by_cases h1 : 1 ≤ c.tiers ∧ c.tiers ≤ 8
  case neg => exact if_yes (by simp; omega) (if_yes (by simp; omega) (hn (fun h => h1 h.tiers) _ o0))
  refine if_no (by simp; omega) (ld_int a0.c1 (within_ok ⟨_, rfl, ?_⟩))
  by_cases h2 : 1 ≤ c.room ∧ c.room ≤ 1024
  case neg => exact if_yes (by simp; omega) (if_yes (by simp; omega) (hn (fun h => h2 h.room) _ o0))
  refine if_no (by simp; omega) (ld_int a0.c2 (within_ok ⟨_, rfl, ?_⟩))
  by_cases h3 : 1 ≤ c.target ∧ c.target ≤ 1099511627776
  case neg => exact if_yes (by simp; omega) (if_yes (by simp; omega) (hn (fun h => h3 h.target) _ o0))
  refine if_no (by simp; omega) (ld_int a0.c3 (within_ok ⟨_, rfl, ?_⟩))
  by_cases h4 : 1 ≤ c.interval ∧ c.interval ≤ 1099511627776
  case neg => exact if_yes (by simp; omega) (if_yes (by simp; omega) (hn (fun h => h4 h.interval) _ o0))
  refine if_no (by simp; omega) (cf_load a0 (confMode_ok (c := c) fun w1 o1 => ⟨_, _, _, rfl, modeRight_ok fun w2 o2 => ⟨_, rfl, ?_⟩⟩))
  have a2 := a0.only (o1.trans o2) (by simp)
  have o02 := (o0.trans o1).trans o2
  by_cases h5 : 0 ≤ c.low ∧ c.low ≤ c.high ∧ 0 ≤ c.dwell
  case neg => exact if_yes (by simp; omega) (if_yes (by simp; omega) (hn (fun h => h5 h.mode) _ o02))
  refine if_no (by simp; omega) (ld_int a2.c7 (ld_int a2.c2 (within_ok ⟨_, rfl, ?_⟩)))
  by_cases h6 : c.target ≤ c.horizon ∧ c.horizon ≤ 1125899906842624
  case neg => exact if_yes (by simp; omega) (if_yes (by simp; omega) (hn (fun h => h6 h.horizon) _ o02))
  refine if_no (by simp; omega) (cf_load a2 (confPid_ok (c := c) (by unfold i64; omega) fun w3 o3 => ⟨_, _, _, _, _, _, _, rfl, pidRight_ok rfl fun w4 o4 => ⟨_, rfl, ?_⟩⟩))
  have a4 := a2.only (o3.trans o4) (by simp)
  have o04 := (o02.trans o3).trans o4
  by_cases h7 : 0 ≤ c.kp ∧ 0 ≤ c.ki ∧ 0 ≤ c.kd ∧ 0 ≤ c.limit ∧ 1 ≤ c.step
  case neg => exact if_yes (by simp; omega) (if_yes (by simp; omega) (hn (fun h => h7 h.pid) _ o04))
  refine if_no (by simp; omega) (ld_int a4.c14 (within_ok ⟨_, rfl, ?_⟩))
  by_cases h8 : 1 ≤ c.threads ∧ c.threads ≤ 16
  case neg => exact if_yes (by simp; omega) (if_yes (by simp; omega) (hn (fun h => h8 h.threads) _ o04))
  refine if_no (by simp; omega) (ld_int a4.c15 (within_ok ⟨_, rfl, ?_⟩))
  by_cases h9 : 2 ≤ c.ring ∧ c.ring ≤ 64
  case neg => exact if_yes (by simp; omega) (if_yes (by simp; omega) (hn (fun h => h9 h.ring) _ o04))
  refine if_no (by simp; omega) (ld_int a4.c15 (ld_int a4.c15 ?_))
  by_cases h10 : bits2 c.ring = 0
  · refine if_no (fun hc => ?_) (hy ⟨h1, h2, h3, h4, h5, h6, h7, h8, h9, h10⟩ _ o04)
    simp only [Bool.not_eq_true', decide_eq_false_iff_not] at hc
    exact hc h10
  · refine if_yes ?_ (hn (fun h => h10 h.pow) _ o04)
    simp only [Bool.not_eq_true', decide_eq_false_iff_not]
    exact h10

def cfDefault : Cf := ⟨4, 64, 5, 100, 50, 10, 20, 1000, 2147483648, 4294967296, 1073741824, 0, 1099511627776, 64, 4, 4⟩

theorem default_ok (hK : ∀ w', Only [] w w' → K (.agg cfDefault.cells) w') : CallsV P 35 #[] w K := by
  refine m_conf_Default_ok ?_
  unfold m_conf_Default
  refine al_intro ?_
  have r0 := Rec.make (S := []) (w0 := w) (Only.refl _ w) #[.int .i64 0, .int .i64 0, .int .i64 0, .int .i64 0, .int .i64 0, .int .i64 0, .int .i64 0, .int .i64 0, .int .i64 0, .int .i64 0, .int .i64 0, .int .i64 0, .int .i64 0, .int .i64 0, .int .i64 0, .int .i64 0] 24
  simp only [addr_add, Nat.zero_add]
  exact r0.st (by simp) fun _ r1 => r1.st (by simp) fun _ r2 => r2.st (by simp) fun _ r3 => r3.st (by simp) fun _ r4 => r4.st (by simp) fun _ r5 => r5.st (by simp) fun _ r6 => r6.st (by simp) fun _ r7 => r7.st (by simp) fun _ r8 =>
    r8.st (by simp) fun _ r9 => r9.st (by simp) fun _ r10 => r10.st (by simp) fun _ r11 => r11.st (by simp) fun _ r12 => r12.st (by simp) fun _ r13 => r13.st (by simp) fun _ r14 => r14.st (by simp) fun _ r15 => r15.st (by simp) fun w' r =>
    r.int rfl (r.int rfl (r.int rfl (r.int rfl (r.int rfl (r.int rfl (r.int rfl (r.int rfl (r.int rfl (r.int rfl (r.int rfl (r.int rfl (r.int rfl (r.int rfl (r.int rfl (r.int rfl (hK _ r.only))))))))))))))))

theorem default_valid : cfDefault.Ok := by
  constructor <;> first | decide | (unfold bits2; decide)

end Go.M
