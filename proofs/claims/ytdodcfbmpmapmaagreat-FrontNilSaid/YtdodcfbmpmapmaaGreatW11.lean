/- Proofs about the front of the overload controller, part 11: C14 C15 C16 HL S0 C1 C2. -/
import Derived.Test.YtdodcfbmpmapmaaGreatW10
import Derived.Test.YtdodcfbmpmapmaaGreatW03
import Derived.Test.YtdodcfbmpmapmaaGreatW04
import Derived.Test.YtdodcfbmpmapmaaGreatW05
import Derived.IntWalk
set_option linter.all false
set_option linter.constructorNameAsVariable false
set_option linter.unusedVariables false
/- The order of entries. -/
set_option linter.all false
set_option linter.constructorNameAsVariable false
namespace Go.M
open Go Go.Eng Go.RowKit

variable {w : World} {K : Value → World → Prop}

def orI (x y z : Int) : Int := if x ≠ 0 then x else if y ≠ 0 then y else z

theorem or_step {b i : Nat} {v : Int} (hi : i < 3) (h : w.cell? ⟨b, i, none⟩ = some (.int .i64 v)) {next : List Value → World → Prop} {out : Nat × List Value → World → Prop}
    (h1 : v ≠ 0 → out (1, [.int .i64 v]) w) (h2 : v = 0 → next [.int .i64 0, .slice (some ⟨b, 0, none⟩) 3 3, .int .i64 ((3 : Nat) : Int), .int .i64 ((i + 1 : Nat) : Int)] w) :
    m_cmp_Or_int_l58 [.int .i64 0, .slice (some ⟨b, 0, none⟩) 3 3, .int .i64 ((3 : Nat) : Int), .int .i64 (i : Int)] w next out := by
  unfold m_cmp_Or_int_l58
  simp only
  refine if_yes (by simp; omega) (ix_nat hi ?_)
  simp only [addr_add, Nat.add_zero, Nat.zero_add, Int.toNat_natCast, Nat.mul_one]
  refine ld_int h ?_
  by_cases hv : v = 0
  · refine if_no (by simp [hv]) ?_
    rw [IntWalk.i64_in _ (by omega)]
    exact h2 hv
  · exact if_yes (by simp [hv]) (h1 hv)

theorem or3_ok {b : Nat} {x y z : Int} (h0 : w.cell? ⟨b, 0, none⟩ = some (.int .i64 x)) (h1 : w.cell? ⟨b, 1, none⟩ = some (.int .i64 y)) (h2 : w.cell? ⟨b, 2, none⟩ = some (.int .i64 z)) (hK : K (.int .i64 (orI x y z)) w) :
    CallsV P 258 #[.slice (some ⟨b, 0, none⟩) 3 3] w K := by
  refine m_cmp_Or_int_ok ?_
  unfold m_cmp_Or_int
  unfold orI at hK
  refine ⟨4, or_step (i := 0) (by omega) h0 (fun hx => ?_) (fun hx => or_step (i := 1) (by omega) h1 (fun hy => ?_) (fun hy => or_step (i := 2) (by omega) h2 (fun hz => ?_) (fun hz => ?_)))⟩
  · simpa [m_cmp_Or_int_l58_o, hx] using hK
  · simpa [m_cmp_Or_int_l58_o, hx, hy] using hK
  · simpa [m_cmp_Or_int_l58_o, hx, hy] using hK
  · show m_cmp_Or_int_l58 _ _ _ _
    unfold m_cmp_Or_int_l58
    simp only
    refine if_no (by simp) ?_
    simpa [m_cmp_Or_int_l58_o, hx, hy, hz] using hK

end Go.M

/- The order of two entries. -/
set_option linter.all false
set_option linter.constructorNameAsVariable false
namespace Go.M
open Go Go.Eng Go.RowKit

variable {w : World} {K : Value → World → Prop}

theorem below_only {w w1 : World} (h : Below w.heap.size w w1) : Only [] w w1 :=
  ⟨⟨h.os, h.tape, h.output⟩, h.size, fun b hb _ => h.block b hb, fun b o ho _ => (h.block b (Array.getElem?_eq_some_iff.1 ho).1).trans ho⟩

theorem order_ok {a1 a2 a3 b1 b2 b3 : Int} (hK : ∀ w', Only [] w w' → K (.int .i64 (orI (cmpI a1 b1) (cmpI a2 b2) (cmpI a3 b3))) w') :
    CallsV P 237 #[.agg #[.int .i64 a1, .int .u64 a2, .int .i64 a3], .agg #[.int .i64 b1, .int .u64 b2, .int .i64 b3]] w K := by
  refine m_heap_order_ok ?_
  unfold m_heap_order
  refine al_intro (al_intro ?_)
  have q1 : ¬ (w.heap.size = w.heap.size + 1) := by omega
  have o0 : Only [] w (World.drew ((w.alloc (.cells #[(.int .i64 a1), (.int .u64 a2), (.int .i64 a3)] 377)).alloc (.cells #[(.int .i64 b1), (.int .u64 b2), (.int .i64 b3)] 377))) := ((Only.alloc _ _).trans (Only.alloc _ _)).trans (Only.drew _)
  refine ld_int (n := a1) (by simp [cell_drew, cell_new, World.size_alloc, q1]) (ld_int (n := b1) (by simp [cell_drew, cell_new, World.size_alloc]) ⟨_, fun w1 _ => cmp1_ok ⟨rfl, Below.refl _ _⟩, ?_⟩)
  refine ld_int (n := a2) (by simp [cell_drew, cell_new, World.size_alloc, q1]) (ld_int (n := b2) (by simp [cell_drew, cell_new, World.size_alloc]) ⟨_, fun w1 _ => cmp2_ok ⟨rfl, Below.refl _ _⟩, ?_⟩)
  refine ld_int (n := a3) (by simp [cell_drew, cell_new, World.size_alloc, q1]) (ld_int (n := b3) (by simp [cell_drew, cell_new, World.size_alloc]) ⟨_, fun w1 _ => cmp3_ok ⟨rfl, Below.refl _ _⟩, fun w2 hb => al_intro ?_⟩)
  obtain ⟨W, hW⟩ : ∃ W, w2.alloc (.cells #[(.int .i64 (cmpI a1 b1)), (.int .i64 (cmpI a2 b2)), (.int .i64 (cmpI a3 b3))] 3) = W := ⟨_, rfl⟩
  have o1 : Only [] w W := by rw [← hW]; exact (o0.trans (below_only hb)).trans (Only.alloc _ _)
  have c0 : W.cell? ⟨w2.heap.size, 0, none⟩ = some (.int .i64 (cmpI a1 b1)) := by rw [← hW]; simp [cell_new]
  have c1 : W.cell? ⟨w2.heap.size, 1, none⟩ = some (.int .i64 (cmpI a2 b2)) := by rw [← hW]; simp [cell_new]
  have c2 : W.cell? ⟨w2.heap.size, 2, none⟩ = some (.int .i64 (cmpI a3 b3)) := by rw [← hW]; simp [cell_new]
  rw [hW]
  refine ⟨_, fun w3 hb3 => ?_, fun w3 hb3 => hK w3 (o1.trans (below_only hb3))⟩
  have o3 := below_only hb3
  exact or3_ok (o3.cell c0 (by simp)) (o3.cell c1 (by simp)) (o3.cell c2 (by simp)) ⟨rfl, Below.refl _ _⟩

end Go.M

/- Is it a member of a heap? -/
set_option linter.all false
set_option linter.constructorNameAsVariable false
namespace Go.M
open Go Go.Eng Go.RowKit

theorem heapMember_ok {w : World} {K : Value → World → Prop} {hb ab n : Nat} {ob : Option Nat} {l : List En} {at_ : Nat → Int} (h : HeapAt w hb ab ob n l at_) {i : Int} (hK : K (.bool (decide (0 ≤ i) && decide (i < (n : Int)))) w) : CallsV P 227 #[.pointer (some ⟨hb, 0, none⟩), .int .i64 i] w K := by
  refine m_heap_Heap_member_ok ?_
  unfold m_heap_Heap_member
  by_cases hi : 0 ≤ i
  · exact if_yes (by simpa using hi) (nn_some (ld_slice (p := some ⟨ab, 0, none⟩) (l := n) (c := n) (by simpa using h.h_at) (by simpa [hi] using hK)))
  · exact if_no (by simpa using hi) (by simpa [hi] using hK)

end Go.M

/- The heap's plain law: no program in sight. -/
set_option linter.all false
set_option linter.constructorNameAsVariable false
namespace Go.M
open Go Go.Eng

instance : Inhabited En := ⟨⟨0, 0, 0⟩⟩

/-- who comes first -/
def En.lt (a b : En) : Prop := a.key < b.key ∨ (a.key = b.key ∧ (a.tie < b.tie ∨ (a.tie = b.tie ∧ a.i < b.i)))
def ordI (a b : En) : Int := orI (cmpI a.key b.key) (cmpI a.tie b.tie) (cmpI (a.i : Int) (b.i : Int))

theorem ordI_lt (a b : En) : ordI a b < 0 ↔ a.lt b := by
  unfold ordI orI cmpI En.lt
  by_cases h1 : a.key < b.key
  · simp [h1]
  · by_cases h2 : b.key < a.key
    · simp [h1, h2]; omega
    · by_cases h3 : a.tie < b.tie
      · simp [h1, h2, h3]; omega
      · by_cases h4 : b.tie < a.tie
        · simp [h1, h2, h3, h4]; omega
        · by_cases h5 : a.i < b.i
          · simp [h1, h2, h3, h4, h5]; omega
          · by_cases h6 : b.i < a.i
            · simp [h1, h2, h3, h4, h5, h6]
            · simp [h1, h2, h3, h4, h5, h6]

theorem ordI_pos (a b : En) : 0 < ordI a b ↔ b.lt a := by
  unfold ordI orI cmpI En.lt
  by_cases h1 : a.key < b.key
  · simp [h1]; omega
  · by_cases h2 : b.key < a.key
    · simp [h1, h2]
    · by_cases h3 : a.tie < b.tie
      · simp [h1, h2, h3]; omega
      · by_cases h4 : b.tie < a.tie
        · simp [h1, h2, h3, h4]; omega
        · by_cases h5 : a.i < b.i
          · simp [h1, h2, h3, h4, h5]; omega
          · by_cases h6 : b.i < a.i
            · simp [h1, h2, h3, h4, h5, h6]; omega
            · simp [h1, h2, h3, h4, h5, h6]

theorem lt_irrefl (a : En) : ¬ a.lt a := by unfold En.lt; omega
theorem lt_trans {a b c : En} (h : a.lt b) (k : b.lt c) : a.lt c := by unfold En.lt at *; omega
/-- not ahead, not ahead -/
theorem nlt_trans {a b c : En} (h : ¬ b.lt a) (k : ¬ c.lt b) : ¬ c.lt a := by unfold En.lt at *; omega
theorem lt_asymm {a b : En} (h : a.lt b) : ¬ b.lt a := by unfold En.lt at *; omega

def par (j : Nat) : Nat := (j - 1) / 2

/-- in order, but for the neighbours of k -/
structure HeapEx (V : Nat → En) (n k : Nat) : Prop where
  edge : ∀ j, 0 < j → j < n → j ≠ k → par j ≠ k → ¬ (V j).lt (V (par j))
  over : ∀ j, 0 < j → j < n → par j = k → 0 < k → ¬ (V j).lt (V (par k))

/-- in order, but for k's children -/
structure HeapDn (V : Nat → En) (n k : Nat) : Prop where
  edge : ∀ j, 0 < j → j < n → par j ≠ k → ¬ (V j).lt (V (par j))
  over : ∀ j, 0 < j → j < n → par j = k → 0 < k → ¬ (V j).lt (V (par k))

def HeapOk (V : Nat → En) (n : Nat) : Prop := ∀ j, 0 < j → j < n → ¬ (V j).lt (V (par j))

def Kids (V : Nat → En) (n k : Nat) : Prop := ∀ j, 0 < j → j < n → par j = k → ¬ (V j).lt (V k)

def sw (V : Nat → En) (a b : Nat) : Nat → En := fun x => if x = a then V b else if x = b then V a else V x

theorem sw_a (V : Nat → En) (a b : Nat) : sw V a b a = V b := by simp [sw]
theorem sw_b (V : Nat → En) (a b : Nat) : sw V a b b = V a := by unfold sw; split <;> simp_all
theorem sw_o {V : Nat → En} {a b x : Nat} (h1 : x ≠ a) (h2 : x ≠ b) : sw V a b x = V x := by simp [sw, h1, h2]

theorem up_step {V : Nat → En} {n k : Nat} (h : HeapEx V n k) (hk : 0 < k) (hn : k < n) (hl : (V k).lt (V (par k))) :
    HeapEx (sw V k (par k)) n (par k) ∧ Kids (sw V k (par k)) n (par k) := by
  have hp : par k < k := by unfold par; omega
  refine ⟨⟨fun j h0 hj h1 h2 => ?_, fun j h0 hj h1 h2 => ?_⟩, fun j h0 hj h1 => ?_⟩
  · by_cases e : j = k
    · subst e; exact absurd rfl h2
    · rw [sw_o e h1]
      by_cases e2 : par j = k
      · rw [e2, sw_a]; exact h.over j h0 hj e2 hk
      · rw [sw_o e2 h2]; exact h.edge j h0 hj e e2
  · have hpp : par (par k) < par k := by unfold par at *; omega
    rw [sw_o (x := par (par k)) (by omega) (by omega)]
    have hbase : ¬ (V (par k)).lt (V (par (par k))) := h.edge (par k) h2 (by omega) (by omega) (by omega)
    by_cases e : j = k
    · subst e; rw [sw_a]; exact hbase
    · have e2 : j ≠ par k := by intro e2; subst e2; omega
      rw [sw_o e e2]
      have := h.edge j h0 hj e (by omega)
      rw [h1] at this
      exact nlt_trans hbase this
  · rw [sw_b]
    by_cases e : j = k
    · subst e; rw [sw_a]; exact lt_asymm hl
    · have e2 : j ≠ par k := by intro e2; subst e2; unfold par at *; omega
      rw [sw_o e e2]
      have := h.edge j h0 hj e (by omega)
      rw [h1] at this
      exact fun hc => this (lt_trans hc hl)

theorem up_end {V : Nat → En} {n k : Nat} (h : HeapEx V n k) (he : k = 0 ∨ ¬ (V k).lt (V (par k))) : HeapDn V n k := by
  refine ⟨fun j h0 hj h1 => ?_, h.over⟩
  by_cases e : j = k
  · subst e
    rcases he with he | he
    · omega
    · exact he
  · exact h.edge j h0 hj e h1

theorem dn_step {V : Nat → En} {n k c : Nat} (h : HeapDn V n k) (hc0 : 0 < c) (hc : c < n) (hp : par c = k) (hmin : ∀ j, 0 < j → j < n → par j = k → ¬ (V j).lt (V c)) (hl : (V c).lt (V k)) :
    HeapDn (sw V k c) n c := by
  have hck : c ≠ k := by unfold par at hp; omega
  refine ⟨fun j h0 hj h1 => ?_, fun j h0 hj h1 h2 => ?_⟩
  · by_cases e : j = c
    · subst e; rw [sw_b, hp, sw_a]; exact lt_asymm hl
    · by_cases e2 : j = k
      · subst e2
        rw [sw_a, sw_o (x := par j) (by unfold par; omega) h1]
        exact h.over c hc0 hc hp h0
      · rw [sw_o e2 e]
        by_cases e3 : par j = k
        · rw [e3, sw_a]; exact hmin j h0 hj e3
        · rw [sw_o e3 h1]; exact h.edge j h0 hj e3
  · have e : j ≠ c := by unfold par at h1; omega
    have e2 : j ≠ k := by unfold par at h1 hp; omega
    rw [sw_o e2 e, hp, sw_a]
    have := h.edge j h0 hj (by omega)
    rw [h1] at this
    exact this

theorem dn_end {V : Nat → En} {n k : Nat} (h : HeapDn V n k) (hk : Kids V n k) : HeapOk V n := fun j h0 hj => by
  by_cases e : par j = k
  · rw [e]; exact hk j h0 hj e
  · exact h.edge j h0 hj e

theorem ok_ex {V : Nat → En} {n : Nat} (h : HeapOk V n) : HeapEx V (n + 1) n :=
  ⟨fun j h0 hj h1 _ => h j h0 (by omega), fun j h0 hj h1 h2 => by unfold par at h1; omega⟩

theorem HeapOk.less {V : Nat → En} {n : Nat} (h : HeapOk V (n + 1)) : HeapOk V n := fun j h0 hj => h j h0 (by omega)

theorem HeapOk.ext {V V' : Nat → En} {n : Nat} (h : HeapOk V n) (he : ∀ j, j < n → V' j = V j) : HeapOk V' n := fun j h0 hj => by
  rw [he j hj, he (par j) (by unfold par; omega)]; exact h j h0 hj

theorem HeapEx.ext {V V' : Nat → En} {n k : Nat} (h : HeapEx V n k) (he : ∀ j, j < n → V' j = V j) : HeapEx V' n k :=
  ⟨fun j h0 hj h1 h2 => by rw [he j hj, he (par j) (by unfold par; omega)]; exact h.edge j h0 hj h1 h2,
   fun j h0 hj h1 h2 => by rw [he j hj, he (par k) (by unfold par at *; omega)]; exact h.over j h0 hj h1 h2⟩

theorem HeapDn.ext {V V' : Nat → En} {n k : Nat} (h : HeapDn V n k) (he : ∀ j, j < n → V' j = V j) : HeapDn V' n k :=
  ⟨fun j h0 hj h1 => by rw [he j hj, he (par j) (by unfold par; omega)]; exact h.edge j h0 hj h1,
   fun j h0 hj h1 h2 => by rw [he j hj, he (par k) (by unfold par at *; omega)]; exact h.over j h0 hj h1 h2⟩

/-- one is put in another's place -/
theorem ok_put {V : Nat → En} {n k : Nat} (h : HeapOk V n) (e : En) : HeapEx (upd V k e) n k :=
  ⟨fun j h0 hj h1 h2 => by rw [upd_other h1, upd_other h2]; exact h j h0 hj, fun j h0 hj h1 h2 => by
    have e1 : j ≠ k := by unfold par at h1; omega
    have e2 : par k ≠ k := by unfold par; omega
    rw [upd_other e1, upd_other e2]
    have g1 := h j h0 hj
    rw [h1] at g1
    have g2 := h k h2 (by unfold par at h1; omega)
    exact nlt_trans g2 g1⟩

/-! ### Where each one is -/
/-- who is at which place -/
structure HInv (V : Nat → En) (n : Nat) (N : Nat) (A : Nat → Int) : Prop where
  lt : ∀ k, k < n → (V k).i < N
  here : ∀ k, k < n → A (V k).i = k
  there : ∀ i, i < N → A i ≠ -1 → ∃ k, k < n ∧ A i = k ∧ (V k).i = i

theorem HInv.inj {V : Nat → En} {n N : Nat} {A : Nat → Int} (h : HInv V n N A) {a b : Nat} (ha : a < n) (hb : b < n) (he : (V a).i = (V b).i) : a = b := by
  have h1 := h.here a ha
  have h2 := h.here b hb
  rw [he] at h1
  omega

theorem HInv.ext {V V' : Nat → En} {n N : Nat} {A A' : Nat → Int} (h : HInv V n N A) (he : ∀ j, j < n → V' j = V j) (hA : ∀ i, i < N → A' i = A i) : HInv V' n N A' :=
  ⟨fun k hk => by rw [he k hk]; exact h.lt k hk, fun k hk => by rw [he k hk, hA _ (h.lt k hk)]; exact h.here k hk, fun i hi ha => by
    rw [hA i hi] at ha ⊢
    obtain ⟨k, h1, h2, h3⟩ := h.there i hi ha
    exact ⟨k, h1, h2, by rw [he k h1]; exact h3⟩⟩

theorem HInv.swap {V : Nat → En} {n N : Nat} {A : Nat → Int} {a b : Nat} (h : HInv V n N A) (ha : a < n) (hb : b < n) :
    HInv (sw V a b) n N (upd (upd A (V b).i a) (V a).i b) := by
  by_cases hab : a = b
  · subst hab
    refine h.ext (fun j _ => by unfold sw; split <;> simp_all) fun i _ => ?_
    unfold upd
    split
    · rename_i e; rw [e, h.here a ha]
    · rfl
  have hne : (V a).i ≠ (V b).i := fun e => hab (h.inj ha hb e)
  refine ⟨fun k hk => ?_, fun k hk => ?_, fun i hi hA => ?_⟩
  · unfold sw; split
    · exact h.lt b hb
    · split
      · exact h.lt a ha
      · exact h.lt k hk
  · by_cases e1 : k = a
    · subst e1; rw [sw_a, upd_other (Ne.symm hne), upd_same]
    · by_cases e2 : k = b
      · subst e2; rw [sw_b, upd_same]
      · rw [sw_o e1 e2, upd_other (fun e => e1 (h.inj hk ha e)), upd_other (fun e => e2 (h.inj hk hb e))]; exact h.here k hk
  · by_cases e1 : i = (V a).i
    · exact ⟨b, hb, by rw [e1, upd_same], by rw [sw_b, e1]⟩
    · by_cases e2 : i = (V b).i
      · exact ⟨a, ha, by rw [upd_other e1, e2, upd_same], by rw [sw_a, e2]⟩
      · rw [upd_other e1, upd_other e2] at hA ⊢
        obtain ⟨k, h1, h2, h3⟩ := h.there i hi hA
        refine ⟨k, h1, h2, ?_⟩
        rw [sw_o (fun e => e1 (by rw [← h3, e])) (fun e => e2 (by rw [← h3, e]))]
        exact h3

/-! ### The list's entries -/
def el (l : List En) : Nat → En := fun j => l.getD j default

theorem el_get {l : List En} {j : Nat} (h : j < l.length) : l[j]? = some (el l j) := by
  unfold el; simp [List.getD_eq_getElem?_getD, h]
theorem el_set {l : List En} {k : Nat} (h : k < l.length) (e : En) : el (l.set k e) = upd (el l) k e := by
  funext j
  unfold el upd
  simp only [List.getD_eq_getElem?_getD, List.getElem?_set]
  by_cases hj : j = k
  · subst hj; simp [h]
  · simp [hj, Ne.symm hj]
theorem el_app_lt {l : List En} {e : En} {j : Nat} (h : j < l.length) : el (l ++ [e]) j = el l j := by
  unfold el; simp only [List.getD_eq_getElem?_getD, List.getElem?_append_left h]
theorem el_app_eq (l : List En) (e : En) : el (l ++ [e]) l.length = e := by
  unfold el; simp
theorem el_take {l : List En} {n j : Nat} (h : j < n) : el (l.take n) j = el l j := by
  unfold el; simp only [List.getD_eq_getElem?_getD, List.getElem?_take, if_pos h]

theorem sw_upd {V : Nat → En} {k p : Nat} {e : En} (hp : p ≠ k) (he : V k = e) : upd (upd V k (V p)) p e = sw V k p := by
  funext x
  unfold upd sw
  by_cases h1 : x = p
  · subst h1; simp [hp, he]
  · by_cases h2 : x = k
    · subst h2; simp [h1]
    · simp [h1, h2]

theorem upd_upd {α : Type} (f : Nat → α) (k : Nat) (a b : α) : upd (upd f k a) k b = upd f k b := by
  funext x; unfold upd; split <;> rfl
theorem upd_self {α : Type} (f : Nat → α) (k : Nat) : upd f k (f k) = f := by
  funext x; unfold upd; split <;> simp_all
theorem upd_comm {α : Type} (f : Nat → α) {k p : Nat} (h : k ≠ p) (a b : α) : upd (upd f k a) p b = upd (upd f p b) k a := by
  funext x; unfold upd; split <;> split <;> simp_all

/-! ### Those below a key -/
/-- places in a branch -/
def belowI (V : Nat → En) (n : Nat) (x : Int) (k : Nat) : List Nat :=
  if h : k < n ∧ (V k).key ≤ x then k :: (belowI V n x (2 * k + 1) ++ belowI V n x (2 * k + 2)) else []
  termination_by n - k
  decreasing_by all_goals omega

def InBr (k j : Nat) : Prop := ∃ d, (j + 1) / 2 ^ d = k + 1

theorem inBr_self (k : Nat) : InBr k k := ⟨0, by simp⟩
theorem inBr_ge {k j : Nat} (h : InBr k j) : k ≤ j := by
  obtain ⟨d, h⟩ := h
  have := Nat.div_le_self (j + 1) (2 ^ d)
  omega
theorem inBr_kid {k j : Nat} (h : InBr (2 * k + 1) j ∨ InBr (2 * k + 2) j) : InBr k j := by
  rcases h with ⟨d, h⟩ | ⟨d, h⟩
  · refine ⟨d + 1, ?_⟩; rw [Nat.pow_succ, ← Nat.div_div_eq_div_mul, h]; omega
  · refine ⟨d + 1, ?_⟩; rw [Nat.pow_succ, ← Nat.div_div_eq_div_mul, h]; omega
theorem inBr_split {k j : Nat} (h : InBr k j) : j = k ∨ InBr (2 * k + 1) j ∨ InBr (2 * k + 2) j := by
  obtain ⟨d, h⟩ := h
  cases d with
  | zero => left; simpa using h
  | succ d =>
    right
    rw [Nat.pow_succ, ← Nat.div_div_eq_div_mul] at h
    have : (j + 1) / 2 ^ d = 2 * k + 1 + 1 ∨ (j + 1) / 2 ^ d = 2 * k + 2 + 1 := by omega
    rcases this with h | h
    · exact .inl ⟨d, h⟩
    · exact .inr ⟨d, h⟩
theorem inBr_apart {k j : Nat} (h1 : InBr (2 * k + 1) j) (h2 : InBr (2 * k + 2) j) : False := by
  obtain ⟨a, h1⟩ := h1
  obtain ⟨b, h2⟩ := h2
  have mono : ∀ a b, a < b → (j + 1) / 2 ^ b ≤ (j + 1) / 2 ^ a / 2 := fun a b hab => by
    rw [Nat.div_div_eq_div_mul, ← Nat.pow_succ]
    exact Nat.div_le_div_left (Nat.pow_le_pow_right (by omega) hab) (Nat.pow_pos (by omega))
  rcases Nat.lt_trichotomy a b with h | h | h
  · have := mono a b h; omega
  · subst h; omega
  · have := mono b a h; omega
theorem inBr_root (j : Nat) : InBr 0 j := by
  refine ⟨Nat.log2 (j + 1), ?_⟩
  have h1 := Nat.log2_self_le (n := j + 1) (by omega)
  have h2 := Nat.lt_log2_self (n := j + 1)
  rw [Nat.pow_succ] at h2
  have h3 : 0 < 2 ^ Nat.log2 (j + 1) := Nat.pow_pos (by omega)
  apply Nat.le_antisymm
  · have : (j + 1) / 2 ^ Nat.log2 (j + 1) < 2 := (Nat.div_lt_iff_lt_mul h3).2 (by omega)
    omega
  · exact (Nat.le_div_iff_mul_le h3).2 (by omega)

theorem heap_path {V : Nat → En} {n : Nat} (h : HeapOk V n) : ∀ {d k j : Nat}, (j + 1) / 2 ^ d = k + 1 → j < n → (V k).key ≤ (V j).key := by
  intro d
  induction d with
  | zero => intro k j hj hn; have : j = k := by simpa using hj
            subst this; exact Int.le_refl _
  | succ d ih =>
    intro k j hj hn
    rw [Nat.pow_succ, ← Nat.div_div_eq_div_mul] at hj
    have hq : (j + 1) / 2 ^ d = ((j + 1) / 2 ^ d - 1) + 1 := by omega
    have h1 := ih (k := (j + 1) / 2 ^ d - 1) hq hn
    have hle := Nat.div_le_self (j + 1) (2 ^ d)
    have h2 := h ((j + 1) / 2 ^ d - 1) (by omega) (by omega)
    have hp : par ((j + 1) / 2 ^ d - 1) = k := by unfold par; omega
    rw [hp] at h2
    unfold En.lt at h2
    omega

theorem belowI_mem {V : Nat → En} {n : Nat} {x : Int} (h : HeapOk V n) : ∀ (m k j : Nat), n - k ≤ m → (j ∈ belowI V n x k ↔ InBr k j ∧ j < n ∧ (V j).key ≤ x) := by
  intro m
  induction m with
  | zero =>
    intro k j hm
    unfold belowI
    rw [dif_neg (by omega)]
    constructor
    · intro h; cases h
    · rintro ⟨h1, h2, _⟩; have := inBr_ge h1; omega
  | succ m ih =>
    intro k j hm
    unfold belowI
    by_cases hc : k < n ∧ (V k).key ≤ x
    · rw [dif_pos hc]
      simp only [List.mem_cons, List.mem_append]
      rw [ih (2 * k + 1) j (by omega), ih (2 * k + 2) j (by omega)]
      constructor
      · rintro (h1 | ⟨h1, h2⟩ | ⟨h1, h2⟩)
        · subst h1; exact ⟨inBr_self _, hc⟩
        · exact ⟨inBr_kid (.inl h1), h2⟩
        · exact ⟨inBr_kid (.inr h1), h2⟩
      · rintro ⟨h1, h2⟩
        rcases inBr_split h1 with h3 | h3 | h3
        · exact .inl h3
        · exact .inr (.inl ⟨h3, h2⟩)
        · exact .inr (.inr ⟨h3, h2⟩)
    · rw [dif_neg hc]
      constructor
      · intro h; cases h
      · rintro ⟨⟨d, h1⟩, h2, h3⟩
        have h4 := heap_path h h1 h2
        have h5 := inBr_ge ⟨d, h1⟩
        exact absurd ⟨by omega, by omega⟩ hc

theorem belowI_nodup {V : Nat → En} {n : Nat} {x : Int} (h : HeapOk V n) : ∀ (m k : Nat), n - k ≤ m → (belowI V n x k).Nodup := by
  intro m
  induction m with
  | zero =>
    intro k hm
    unfold belowI
    rw [dif_neg (by omega)]
    exact List.nodup_nil
  | succ m ih =>
    intro k hm
    unfold belowI
    by_cases hc : k < n ∧ (V k).key ≤ x
    · rw [dif_pos hc]
      have g1 := belowI_mem (x := x) h n (2 * k + 1)
      have g2 := belowI_mem (x := x) h n (2 * k + 2)
      refine List.nodup_cons.2 ⟨fun hm => ?_, List.nodup_append.2 ⟨ih _ (by omega), ih _ (by omega), fun a ha b hb e => ?_⟩⟩
      · rcases List.mem_append.1 hm with hm | hm
        · have := inBr_ge ((g1 k (by omega)).1 hm).1; omega
        · have := inBr_ge ((g2 k (by omega)).1 hm).1; omega
      · subst e
        exact inBr_apart ((g1 a (by omega)).1 ha).1 ((g2 a (by omega)).1 hb).1
    · rw [dif_neg hc]; exact List.nodup_nil

end Go.M

namespace Go.M
open Go Go.Eng Go.RowKit
set_option linter.all false
set_option linter.constructorNameAsVariable false
set_option maxRecDepth 100000
attribute [local irreducible] evCode owes Owed

def m_slab_Slab_Take_c15 (vs : List Value) (w0 : World) (out : Nat × List Value → World → Prop) : Prop :=
  match vs with
  | [.pointer s19, .pointer (some q20), .int .i64 i21] => Nn s19 fun s22 => ∃ (sA23 : Option Addr) (sL24 : Nat) (sC25 : Nat), World.cell? w0 (s22.add 0) = some (.slice sA23 sL24 sC25) ∧ Ix sA23 sL24 i21 fun a26 => ∃ (n27 : Int), World.cell? w0 (q20.add 0) = some (.int .u64 n27) ∧ ∃ (n28 : Int), World.cell? w0 (q20.add 1) = some (.int .i64 n28) ∧ ∃ (n29 : Int), World.cell? w0 (q20.add 2) = some (.int .i64 n29) ∧ ∃ (n30 : Int), World.cell? w0 (q20.add 3) = some (.int .i64 n30) ∧ ∃ (n31 : Int), World.cell? w0 (q20.add 4) = some (.int .i64 n31) ∧ St (((a26.add (Int.toNat i21 * 8)).add 0).add 0) (.int .u64 n27) w0 fun w32 => St (((a26.add (Int.toNat i21 * 8)).add 0).add 1) (.int .i64 n28) w32 fun w33 => St (((a26.add (Int.toNat i21 * 8)).add 0).add 2) (.int .i64 n29) w33 fun w34 => St (((a26.add (Int.toNat i21 * 8)).add 0).add 3) (.int .i64 n30) w34 fun w35 => St (((a26.add (Int.toNat i21 * 8)).add 0).add 4) (.int .i64 n31) w35 fun w36 => St (((a26.add (Int.toNat i21 * 8)).add 6).add 0) (.bool true) w36 fun w37 => ∃ (n38 : Int), World.cell? w37 ((a26.add (Int.toNat i21 * 8)).add 5) = some (.int .u32 n38) ∧ St (((a26.add (Int.toNat i21 * 8)).add 5).add 0) (.int .u32 (IntKind.wrap .u32 (n38 + 1))) w37 fun w39 => Nn s19 fun s40 => ∃ (n41 : Int), World.cell? w39 (s40.add 3) = some (.int .i64 n41) ∧ Nn s19 fun s42 => St ((s42.add 3).add 0) (.int .i64 (IntKind.wrap .i64 (n41 + 1))) w39 fun w43 => ∃ (n44 : Int), World.cell? w43 ((a26.add (Int.toNat i21 * 8)).add 5) = some (.int .u32 n44) ∧ out (0, [(.int .u64 (IntKind.wrap .u64 ((BitVec.ofInt (IntKind.bits .u64) (IntKind.wrap .u64 ((IntKind.wrap .u64 (n44)) * 2 ^ (32))) ||| BitVec.ofInt (IntKind.bits .u64) (IntKind.wrap .u64 (i21))).toNat))), (.int .i64 0)]) w43
  | _ => False

def m_slab_Slab_Take_c15_o (y : Nat × List Value) (k0 : Int → Int → Prop) : Prop :=
  match y with
  | (0, [.int .u64 n45, .int .i64 n46]) => k0 n45 n46
  | _ => False

/-- (*overfall/slab.Slab).Take -/
def m_slab_Slab_Take (s1 : Option Addr) (q2 : Int) (q3 : Int) (q4 : Int) (q5 : Int) (q6 : Int) (w0 : World) (K : Value → World → Prop) : Prop :=
  Al #[(.int .u64 q2), (.int .i64 q3), (.int .i64 q4), (.int .i64 q5), (.int .i64 q6)] 130 w0 fun b7 w8 => (if (Option.isNone s1) = true then K (.tuple #[(.int .u64 0), (.int .i64 3)]) w8 else Nn s1 fun s9 => ∃ (n10 : Int), World.cell? w8 (s9.add 1) = some (.int .i64 n10) ∧ (if (!decide (n10 = (-1))) = true then Nn s1 fun s11 => ∃ (sA12 : Option Addr) (sL13 : Nat) (sC14 : Nat), World.cell? w8 (s11.add 0) = some (.slice sA12 sL13 sC14) ∧ Ix sA12 sL13 n10 fun a15 => ∃ (n16 : Int), World.cell? w8 ((a15.add (Int.toNat n10 * 8)).add 7) = some (.int .i64 n16) ∧ Nn s1 fun s17 => St ((s17.add 1).add 0) (.int .i64 n16) w8 fun w18 => m_slab_Slab_Take_c15 [(.pointer s1), (.pointer (some (⟨b7, 0, none⟩ : Addr))), (.int .i64 n10)] w18 fun y48 w47 => m_slab_Slab_Take_c15_o y48 (fun n49 n50 => K (.tuple #[(.int .u64 n49), (.int .i64 n50)]) w47) else Nn s1 fun s51 => ∃ (n52 : Int), World.cell? (World.drew w8) (s51.add 2) = some (.int .i64 n52) ∧ Nn s1 fun s53 => ∃ (sA54 : Option Addr) (sL55 : Nat) (sC56 : Nat), World.cell? (World.drew w8) (s53.add 0) = some (.slice sA54 sL55 sC56) ∧ (if (decide (n52 < ((sL55 : Nat) : Int))) = true then Nn s1 fun s57 => ∃ (n58 : Int), World.cell? (World.drew w8) (s57.add 2) = some (.int .i64 n58) ∧ Nn s1 fun s59 => ∃ (n60 : Int), World.cell? (World.drew w8) (s59.add 2) = some (.int .i64 n60) ∧ Nn s1 fun s61 => St ((s61.add 2).add 0) (.int .i64 (IntKind.wrap .i64 (n60 + 1))) (World.drew w8) fun w62 => m_slab_Slab_Take_c15 [(.pointer s1), (.pointer (some (⟨b7, 0, none⟩ : Addr))), (.int .i64 n58)] w62 fun y64 w63 => m_slab_Slab_Take_c15_o y64 (fun n65 n66 => K (.tuple #[(.int .u64 n65), (.int .i64 n66)]) w63) else K (.tuple #[(.int .u64 0), (.int .i64 4)]) (World.drew w8))))

theorem func_180 : P.funcs[180]? = some (fnOf 180) := by kernel_rfl
theorem body_180 : (fnOf 180).body = some (bodyOf 180) := by kernel_rfl
def m_slab_Slab_Take_c15_p (y : Nat × List Value) (k : Nat × List Value → Prop) : Prop := m_slab_Slab_Take_c15_o y (fun n45 n46 => k (0, [(.int .u64 n45), (.int .i64 n46)]))
theorem m_slab_Slab_Take_c15_pok : ∀ y k, m_slab_Slab_Take_c15_p y k → k y := by
  intro y k h
  unfold m_slab_Slab_Take_c15_p m_slab_Slab_Take_c15_o at h
  split at h <;> first | exact h | exact h.elim
def m_slab_Slab_Take_c15_E : Env → World → Kont → Prop := (fun e w k => takeK 86 [0, 3, 6] e fun vs => m_slab_Slab_Take_c15 vs w fun y w => m_slab_Slab_Take_c15_p y fun y => outK 86 [(.ret, [4, 5])] k y w)
def O_m_slab_Slab_Take : Orac := { loop := fun p => (fun _ _ _ => False), cut := fun p => cond (Nat.beq p 15) (some m_slab_Slab_Take_c15_E) (none) }
theorem m_slab_Slab_Take_c15_owed : Owed P O_m_slab_Slab_Take (codeAt (bodyOf 180) [true, true, true, true]) 31 := owed_of (cast (by kernel_rfl) True.intro)
theorem m_slab_Slab_Take_c15_ok : Sound P (codeAt (bodyOf 180) [true, true, true, true]) m_slab_Slab_Take_c15_E := by
  refine piece_sound (evCode_sound W2 O_m_slab_Slab_Take (codeAt (bodyOf 180) [true, true, true, true]) 31 m_slab_Slab_Take_c15_owed) 86 [0, 3, 6] [(.ret, [4, 5])] m_slab_Slab_Take_c15 ?_ m_slab_Slab_Take_c15_p m_slab_Slab_Take_c15_pok
  intro vs w out h
  unfold m_slab_Slab_Take_c15 at h
  split at h
  · exact cast (by kernel_rfl) h
  · exact h.elim
theorem m_slab_Slab_Take_owed : Owed P O_m_slab_Slab_Take (bodyOf 180) 1 := owed_of (cast (by kernel_rfl) m_slab_Slab_Take_c15_ok)
theorem m_slab_Slab_Take_eq (s1 : Option Addr) (q2 : Int) (q3 : Int) (q4 : Int) (q5 : Int) (q6 : Int) (w0 : World) (K : Value → World → Prop) : m_slab_Slab_Take s1 q2 q3 q4 q5 q6 w0 K = evCode T0 P O_m_slab_Slab_Take (bodyOf 180) 1 (env0 (Array.toList #[(.pointer s1), (.agg #[(.int .u64 q2), (.int .i64 q3), (.int .i64 q4), (.int .i64 q5), (.int .i64 q6)])]) (fnOf 180).ntmps) w0 (endK T0 (fnOf 180).results.toList K) := by kernel_rfl
theorem m_slab_Slab_Take_ok {s1 : Option Addr} {q2 : Int} {q3 : Int} {q4 : Int} {q5 : Int} {q6 : Int} {w0 : World} {K : Value → World → Prop} (h : m_slab_Slab_Take s1 q2 q3 q4 q5 q6 w0 K) : CallsV P 180 #[(.pointer s1), (.agg #[(.int .u64 q2), (.int .i64 q3), (.int .i64 q4), (.int .i64 q5), (.int .i64 q6)])] w0 K :=
  func_sound W2 func_180 body_180 m_slab_Slab_Take_owed (Eq.mp (m_slab_Slab_Take_eq s1 q2 q3 q4 q5 q6 w0 K) h)


/-- (overfall/slab.Handle).Cell -/
def m_slab_Handle_Cell (h1 : Int) (w0 : World) (K : Value → World → Prop) : Prop :=
  K (.int .i64 (IntKind.wrap .i64 (IntKind.wrap .u64 ((BitVec.ofInt (IntKind.bits .u64) h1 &&& BitVec.ofInt (IntKind.bits .u64) 4294967295).toNat)))) w0

theorem func_181 : P.funcs[181]? = some (fnOf 181) := by kernel_rfl
theorem body_181 : (fnOf 181).body = some (bodyOf 181) := by kernel_rfl
theorem m_slab_Handle_Cell_owed : Owed P O0 (bodyOf 181) 1 := owed_of (cast (by kernel_rfl) True.intro)
theorem m_slab_Handle_Cell_eq (h1 : Int) (w0 : World) (K : Value → World → Prop) : m_slab_Handle_Cell h1 w0 K = evCode T0 P O0 (bodyOf 181) 1 (env0 (Array.toList #[(.int .u64 h1)]) (fnOf 181).ntmps) w0 (endK T0 (fnOf 181).results.toList K) := by kernel_rfl
theorem m_slab_Handle_Cell_ok {h1 : Int} {w0 : World} {K : Value → World → Prop} (h : m_slab_Handle_Cell h1 w0 K) : CallsV P 181 #[(.int .u64 h1)] w0 K :=
  func_sound W2 func_181 body_181 m_slab_Handle_Cell_owed (Eq.mp (m_slab_Handle_Cell_eq h1 w0 K) h)


def m_slab_Slab_at_c7 (vs : List Value) (w0 : World) (out : Nat × List Value → World → Prop) : Prop :=
  match vs with
  | [.pointer s22, .int .i64 i23] => Nn s22 fun s24 => ∃ (sA25 : Option Addr) (sL26 : Nat) (sC27 : Nat), World.cell? w0 (s24.add 0) = some (.slice sA25 sL26 sC27) ∧ Ix sA25 sL26 i23 fun a28 => out (0, [(.pointer (some (a28.add (Int.toNat i23 * 8))))]) w0
  | _ => False

def m_slab_Slab_at_c7_o (y : Nat × List Value) (k0 : Option Addr → Prop) : Prop :=
  match y with
  | (0, [.pointer p29]) => k0 p29
  | _ => False

/-- (*overfall/slab.Slab).at -/
def m_slab_Slab_at (s1 : Option Addr) (h2 : Int) (w0 : World) (K : Value → World → Prop) : Prop :=
  CallsV P 181 #[(.int .u64 h2)] w0 fun v3 w4 => ∃ (n5 : Int), v3 = (.int .i64 n5) ∧ Nn s1 fun s6 => ∃ (sA7 : Option Addr) (sL8 : Nat) (sC9 : Nat), World.cell? w4 (s6.add 0) = some (.slice sA7 sL8 sC9) ∧ (if (decide (((sL8 : Nat) : Int) ≤ n5)) = true then K (.pointer none) w4 else Nn s1 fun s10 => ∃ (sA11 : Option Addr) (sL12 : Nat) (sC13 : Nat), World.cell? w4 (s10.add 0) = some (.slice sA11 sL12 sC13) ∧ Ix sA11 sL12 n5 fun a14 => ∃ (b15 : Bool), World.cell? w4 ((a14.add (Int.toNat n5 * 8)).add 6) = some (.bool b15) ∧ (if (!b15) = true then K (.pointer none) w4 else Nn s1 fun s16 => ∃ (sA17 : Option Addr) (sL18 : Nat) (sC19 : Nat), World.cell? w4 (s16.add 0) = some (.slice sA17 sL18 sC19) ∧ Ix sA17 sL18 n5 fun a20 => ∃ (n21 : Int), World.cell? w4 ((a20.add (Int.toNat n5 * 8)).add 5) = some (.int .u32 n21) ∧ (if (!decide ((IntKind.wrap .u64 (n21)) = (Int.fdiv h2 (2 ^ (32))))) = true then K (.pointer none) w4 else m_slab_Slab_at_c7 [(.pointer s1), (.int .i64 n5)] w4 fun y31 w30 => m_slab_Slab_at_c7_o y31 (fun p32 => K (.pointer p32) w30))))

theorem func_202 : P.funcs[202]? = some (fnOf 202) := by kernel_rfl
theorem body_202 : (fnOf 202).body = some (bodyOf 202) := by kernel_rfl
def m_slab_Slab_at_c7_p (y : Nat × List Value) (k : Nat × List Value → Prop) : Prop := m_slab_Slab_at_c7_o y (fun p29 => k (0, [(.pointer p29)]))
theorem m_slab_Slab_at_c7_pok : ∀ y k, m_slab_Slab_at_c7_p y k → k y := by
  intro y k h
  unfold m_slab_Slab_at_c7_p m_slab_Slab_at_c7_o at h
  split at h <;> first | exact h | exact h.elim
def m_slab_Slab_at_c7_E : Env → World → Kont → Prop := (fun e w k => takeK 46 [0, 5] e fun vs => m_slab_Slab_at_c7 vs w fun y w => m_slab_Slab_at_c7_p y fun y => outK 46 [(.ret, [4])] k y w)
def O_m_slab_Slab_at : Orac := { loop := fun p => (fun _ _ _ => False), cut := fun p => cond (Nat.beq p 7) (some m_slab_Slab_at_c7_E) (none) }
theorem m_slab_Slab_at_c7_owed : Owed P O_m_slab_Slab_at (codeAt (bodyOf 202) [true, true, true]) 15 := owed_of (cast (by kernel_rfl) True.intro)
theorem m_slab_Slab_at_c7_ok : Sound P (codeAt (bodyOf 202) [true, true, true]) m_slab_Slab_at_c7_E := by
  refine piece_sound (evCode_sound W2 O_m_slab_Slab_at (codeAt (bodyOf 202) [true, true, true]) 15 m_slab_Slab_at_c7_owed) 46 [0, 5] [(.ret, [4])] m_slab_Slab_at_c7 ?_ m_slab_Slab_at_c7_p m_slab_Slab_at_c7_pok
  intro vs w out h
  unfold m_slab_Slab_at_c7 at h
  split at h
  · exact cast (by kernel_rfl) h
  · exact h.elim
theorem m_slab_Slab_at_owed : Owed P O_m_slab_Slab_at (bodyOf 202) 1 := owed_of (cast (by kernel_rfl) m_slab_Slab_at_c7_ok)
theorem m_slab_Slab_at_eq (s1 : Option Addr) (h2 : Int) (w0 : World) (K : Value → World → Prop) : m_slab_Slab_at s1 h2 w0 K = evCode T0 P O_m_slab_Slab_at (bodyOf 202) 1 (env0 (Array.toList #[(.pointer s1), (.int .u64 h2)]) (fnOf 202).ntmps) w0 (endK T0 (fnOf 202).results.toList K) := by kernel_rfl
theorem m_slab_Slab_at_ok {s1 : Option Addr} {h2 : Int} {w0 : World} {K : Value → World → Prop} (h : m_slab_Slab_at s1 h2 w0 K) : CallsV P 202 #[(.pointer s1), (.int .u64 h2)] w0 K :=
  func_sound W2 func_202 body_202 m_slab_Slab_at_owed (Eq.mp (m_slab_Slab_at_eq s1 h2 w0 K) h)


/-- (*overfall/slab.Slab).Free -/
def m_slab_Slab_Free (s1 : Option Addr) (h2 : Int) (w0 : World) (K : Value → World → Prop) : Prop :=
  (if (Option.isNone s1) = true then K (.int .i64 3) w0 else CallsV P 202 #[(.pointer s1), (.int .u64 h2)] w0 fun v3 w4 => ∃ (p5 : Option Addr), v3 = (.pointer p5) ∧ (if (Option.isNone p5) = true then K (.int .i64 6) w4 else Nn s1 fun s6 => ∃ (n7 : Int), World.cell? w4 (s6.add 1) = some (.int .i64 n7) ∧ Nn p5 fun p8 => St ((p8.add 6).add 0) (.bool false) w4 fun w9 => Nn p5 fun p10 => St ((p10.add 7).add 0) (.int .i64 n7) w9 fun w11 => CallsV P 181 #[(.int .u64 h2)] w11 fun v12 w13 => ∃ (n14 : Int), v12 = (.int .i64 n14) ∧ Nn s1 fun s15 => St ((s15.add 1).add 0) (.int .i64 n14) w13 fun w16 => Nn s1 fun s17 => ∃ (n18 : Int), World.cell? w16 (s17.add 3) = some (.int .i64 n18) ∧ Nn s1 fun s19 => St ((s19.add 3).add 0) (.int .i64 (IntKind.wrap .i64 (n18 - 1))) w16 fun w20 => K (.int .i64 0) w20))

theorem func_222 : P.funcs[222]? = some (fnOf 222) := by kernel_rfl
theorem body_222 : (fnOf 222).body = some (bodyOf 222) := by kernel_rfl
theorem m_slab_Slab_Free_owed : Owed P O0 (bodyOf 222) 1 := owed_of (cast (by kernel_rfl) True.intro)
theorem m_slab_Slab_Free_eq (s1 : Option Addr) (h2 : Int) (w0 : World) (K : Value → World → Prop) : m_slab_Slab_Free s1 h2 w0 K = evCode T0 P O0 (bodyOf 222) 1 (env0 (Array.toList #[(.pointer s1), (.int .u64 h2)]) (fnOf 222).ntmps) w0 (endK T0 (fnOf 222).results.toList K) := by kernel_rfl
theorem m_slab_Slab_Free_ok {s1 : Option Addr} {h2 : Int} {w0 : World} {K : Value → World → Prop} (h : m_slab_Slab_Free s1 h2 w0 K) : CallsV P 222 #[(.pointer s1), (.int .u64 h2)] w0 K :=
  func_sound W2 func_222 body_222 m_slab_Slab_Free_owed (Eq.mp (m_slab_Slab_Free_eq s1 h2 w0 K) h)


def m_slab_New_c3 (vs : List Value) (w0 : World) (out : Nat × List Value → World → Prop) : Prop :=
  match vs with
  | [.int .i64 room2] => Run P (Instr.makeSlice 319 (.int .i64 room2) (.int .i64 room2)) w0 fun v3 w4 => ∃ (sA5 : Option Addr) (sL6 : Nat) (sC7 : Nat), v3 = (.slice sA5 sL6 sC7) ∧ Al #[(.slice sA5 sL6 sC7), (.int .i64 (-1)), (.int .i64 0), (.int .i64 0)] 321 w4 fun b8 w9 => out (0, [(.pointer (some (⟨b8, 0, none⟩ : Addr))), (.int .i64 0)]) w9
  | _ => False

def m_slab_New_c3_o (y : Nat × List Value) (k0 : Option Addr → Int → Prop) : Prop :=
  match y with
  | (0, [.pointer p10, .int .i64 n11]) => k0 p10 n11
  | _ => False

/-- overfall/slab.New -/
def m_slab_New (room1 : Int) (w0 : World) (K : Value → World → Prop) : Prop :=
  (if (decide (room1 < 1)) = true then K (.tuple #[(.pointer none), (.int .i64 1)]) w0 else (if (decide (1024 < room1)) = true then K (.tuple #[(.pointer none), (.int .i64 1)]) w0 else m_slab_New_c3 [(.int .i64 room1)] w0 fun y13 w12 => m_slab_New_c3_o y13 (fun p14 n15 => K (.tuple #[(.pointer p14), (.int .i64 n15)]) w12)))

theorem func_124 : P.funcs[124]? = some (fnOf 124) := by kernel_rfl
theorem body_124 : (fnOf 124).body = some (bodyOf 124) := by kernel_rfl
def m_slab_New_c3_p (y : Nat × List Value) (k : Nat × List Value → Prop) : Prop := m_slab_New_c3_o y (fun p10 n11 => k (0, [(.pointer p10), (.int .i64 n11)]))
theorem m_slab_New_c3_pok : ∀ y k, m_slab_New_c3_p y k → k y := by
  intro y k h
  unfold m_slab_New_c3_p m_slab_New_c3_o at h
  split at h <;> first | exact h | exact h.elim
def m_slab_New_c3_E : Env → World → Kont → Prop := (fun e w k => takeK 14 [0] e fun vs => m_slab_New_c3 vs w fun y w => m_slab_New_c3_p y fun y => outK 14 [(.ret, [2, 3])] k y w)
def O_m_slab_New : Orac := { loop := fun p => (fun _ _ _ => False), cut := fun p => cond (Nat.beq p 3) (some m_slab_New_c3_E) (none) }
theorem m_slab_New_c3_owed : Owed P O_m_slab_New (codeAt (bodyOf 124) [true, true]) 7 := owed_of (cast (by kernel_rfl) True.intro)
theorem m_slab_New_c3_ok : Sound P (codeAt (bodyOf 124) [true, true]) m_slab_New_c3_E := by
  refine piece_sound (evCode_sound W2 O_m_slab_New (codeAt (bodyOf 124) [true, true]) 7 m_slab_New_c3_owed) 14 [0] [(.ret, [2, 3])] m_slab_New_c3 ?_ m_slab_New_c3_p m_slab_New_c3_pok
  intro vs w out h
  unfold m_slab_New_c3 at h
  split at h
  · exact cast (by kernel_rfl) h
  · exact h.elim
theorem m_slab_New_owed : Owed P O_m_slab_New (bodyOf 124) 1 := owed_of (cast (by kernel_rfl) m_slab_New_c3_ok)
theorem m_slab_New_eq (room1 : Int) (w0 : World) (K : Value → World → Prop) : m_slab_New room1 w0 K = evCode T0 P O_m_slab_New (bodyOf 124) 1 (env0 (Array.toList #[(.int .i64 room1)]) (fnOf 124).ntmps) w0 (endK T0 (fnOf 124).results.toList K) := by kernel_rfl
theorem m_slab_New_ok {room1 : Int} {w0 : World} {K : Value → World → Prop} (h : m_slab_New room1 w0 K) : CallsV P 124 #[(.int .i64 room1)] w0 K :=
  func_sound W2 func_124 body_124 m_slab_New_owed (Eq.mp (m_slab_New_eq room1 w0 K) h)


/-- (*overfall/slab.Slab).Len -/
def m_slab_Slab_Len (s1 : Option Addr) (w0 : World) (K : Value → World → Prop) : Prop :=
  (if (Option.isNone s1) = true then K (.int .i64 0) w0 else Nn s1 fun s2 => ∃ (n3 : Int), World.cell? w0 (s2.add 3) = some (.int .i64 n3) ∧ K (.int .i64 n3) w0)

theorem func_146 : P.funcs[146]? = some (fnOf 146) := by kernel_rfl
theorem body_146 : (fnOf 146).body = some (bodyOf 146) := by kernel_rfl
theorem m_slab_Slab_Len_owed : Owed P O0 (bodyOf 146) 1 := owed_of (cast (by kernel_rfl) True.intro)
theorem m_slab_Slab_Len_eq (s1 : Option Addr) (w0 : World) (K : Value → World → Prop) : m_slab_Slab_Len s1 w0 K = evCode T0 P O0 (bodyOf 146) 1 (env0 (Array.toList #[(.pointer s1)]) (fnOf 146).ntmps) w0 (endK T0 (fnOf 146).results.toList K) := by kernel_rfl
theorem m_slab_Slab_Len_ok {s1 : Option Addr} {w0 : World} {K : Value → World → Prop} (h : m_slab_Slab_Len s1 w0 K) : CallsV P 146 #[(.pointer s1)] w0 K :=
  func_sound W2 func_146 body_146 m_slab_Slab_Len_owed (Eq.mp (m_slab_Slab_Len_eq s1 w0 K) h)


/-- (*overfall/slab.Slab).Get -/
def m_slab_Slab_Get (s1 : Option Addr) (h2 : Int) (w0 : World) (K : Value → World → Prop) : Prop :=
  Al #[(.int .u64 0), (.int .i64 0), (.int .i64 0), (.int .i64 0), (.int .i64 0)] 130 w0 fun b3 w4 => (if (Option.isNone s1) = true then St ((⟨b3, 0, none⟩ : Addr).add 0) (.int .u64 0) w4 fun w5 => St ((⟨b3, 0, none⟩ : Addr).add 1) (.int .i64 0) w5 fun w6 => St ((⟨b3, 0, none⟩ : Addr).add 2) (.int .i64 0) w6 fun w7 => St ((⟨b3, 0, none⟩ : Addr).add 3) (.int .i64 0) w7 fun w8 => St ((⟨b3, 0, none⟩ : Addr).add 4) (.int .i64 0) w8 fun w9 => ∃ (r10 : Int), World.cell? w9 ((⟨b3, 0, none⟩ : Addr).add 0) = some (.int .u64 r10) ∧ ∃ (r11 : Int), World.cell? w9 ((⟨b3, 0, none⟩ : Addr).add 1) = some (.int .i64 r11) ∧ ∃ (r12 : Int), World.cell? w9 ((⟨b3, 0, none⟩ : Addr).add 2) = some (.int .i64 r12) ∧ ∃ (r13 : Int), World.cell? w9 ((⟨b3, 0, none⟩ : Addr).add 3) = some (.int .i64 r13) ∧ ∃ (r14 : Int), World.cell? w9 ((⟨b3, 0, none⟩ : Addr).add 4) = some (.int .i64 r14) ∧ K (.tuple #[(.agg #[(.int .u64 r10), (.int .i64 r11), (.int .i64 r12), (.int .i64 r13), (.int .i64 r14)]), (.int .i64 3)]) w9 else CallsV P 202 #[(.pointer s1), (.int .u64 h2)] w4 fun v15 w16 => ∃ (p17 : Option Addr), v15 = (.pointer p17) ∧ (if (Option.isNone p17) = true then St ((⟨b3, 0, none⟩ : Addr).add 0) (.int .u64 0) w16 fun w18 => St ((⟨b3, 0, none⟩ : Addr).add 1) (.int .i64 0) w18 fun w19 => St ((⟨b3, 0, none⟩ : Addr).add 2) (.int .i64 0) w19 fun w20 => St ((⟨b3, 0, none⟩ : Addr).add 3) (.int .i64 0) w20 fun w21 => St ((⟨b3, 0, none⟩ : Addr).add 4) (.int .i64 0) w21 fun w22 => ∃ (r23 : Int), World.cell? w22 ((⟨b3, 0, none⟩ : Addr).add 0) = some (.int .u64 r23) ∧ ∃ (r24 : Int), World.cell? w22 ((⟨b3, 0, none⟩ : Addr).add 1) = some (.int .i64 r24) ∧ ∃ (r25 : Int), World.cell? w22 ((⟨b3, 0, none⟩ : Addr).add 2) = some (.int .i64 r25) ∧ ∃ (r26 : Int), World.cell? w22 ((⟨b3, 0, none⟩ : Addr).add 3) = some (.int .i64 r26) ∧ ∃ (r27 : Int), World.cell? w22 ((⟨b3, 0, none⟩ : Addr).add 4) = some (.int .i64 r27) ∧ K (.tuple #[(.agg #[(.int .u64 r23), (.int .i64 r24), (.int .i64 r25), (.int .i64 r26), (.int .i64 r27)]), (.int .i64 6)]) w22 else Nn p17 fun p28 => ∃ (n29 : Int), World.cell? w16 ((p28.add 0).add 0) = some (.int .u64 n29) ∧ ∃ (n30 : Int), World.cell? w16 ((p28.add 0).add 1) = some (.int .i64 n30) ∧ ∃ (n31 : Int), World.cell? w16 ((p28.add 0).add 2) = some (.int .i64 n31) ∧ ∃ (n32 : Int), World.cell? w16 ((p28.add 0).add 3) = some (.int .i64 n32) ∧ ∃ (n33 : Int), World.cell? w16 ((p28.add 0).add 4) = some (.int .i64 n33) ∧ St ((⟨b3, 0, none⟩ : Addr).add 0) (.int .u64 n29) w16 fun w34 => St ((⟨b3, 0, none⟩ : Addr).add 1) (.int .i64 n30) w34 fun w35 => St ((⟨b3, 0, none⟩ : Addr).add 2) (.int .i64 n31) w35 fun w36 => St ((⟨b3, 0, none⟩ : Addr).add 3) (.int .i64 n32) w36 fun w37 => St ((⟨b3, 0, none⟩ : Addr).add 4) (.int .i64 n33) w37 fun w38 => ∃ (r39 : Int), World.cell? w38 ((⟨b3, 0, none⟩ : Addr).add 0) = some (.int .u64 r39) ∧ ∃ (r40 : Int), World.cell? w38 ((⟨b3, 0, none⟩ : Addr).add 1) = some (.int .i64 r40) ∧ ∃ (r41 : Int), World.cell? w38 ((⟨b3, 0, none⟩ : Addr).add 2) = some (.int .i64 r41) ∧ ∃ (r42 : Int), World.cell? w38 ((⟨b3, 0, none⟩ : Addr).add 3) = some (.int .i64 r42) ∧ ∃ (r43 : Int), World.cell? w38 ((⟨b3, 0, none⟩ : Addr).add 4) = some (.int .i64 r43) ∧ K (.tuple #[(.agg #[(.int .u64 r39), (.int .i64 r40), (.int .i64 r41), (.int .i64 r42), (.int .i64 r43)]), (.int .i64 0)]) w38))

theorem func_149 : P.funcs[149]? = some (fnOf 149) := by kernel_rfl
theorem body_149 : (fnOf 149).body = some (bodyOf 149) := by kernel_rfl
theorem m_slab_Slab_Get_owed : Owed P O0 (bodyOf 149) 1 := owed_of (cast (by kernel_rfl) True.intro)
theorem m_slab_Slab_Get_eq (s1 : Option Addr) (h2 : Int) (w0 : World) (K : Value → World → Prop) : m_slab_Slab_Get s1 h2 w0 K = evCode T0 P O0 (bodyOf 149) 1 (env0 (Array.toList #[(.pointer s1), (.int .u64 h2)]) (fnOf 149).ntmps) w0 (endK T0 (fnOf 149).results.toList K) := by kernel_rfl
theorem m_slab_Slab_Get_ok {s1 : Option Addr} {h2 : Int} {w0 : World} {K : Value → World → Prop} (h : m_slab_Slab_Get s1 h2 w0 K) : CallsV P 149 #[(.pointer s1), (.int .u64 h2)] w0 K :=
  func_sound W2 func_149 body_149 m_slab_Slab_Get_owed (Eq.mp (m_slab_Slab_Get_eq s1 h2 w0 K) h)


end Go.M

/- What the functions of the slab do. -/
set_option linter.all false
set_option linter.constructorNameAsVariable false
namespace Go.M
open Go Go.Eng Go.RowKit

structure Rq where
  ticket : Int
  tier : Int
  cohort : Int
  deadline : Int
  arrived : Int
  deriving DecidableEq

def SlabM.req (s : SlabM) (i : Nat) : Rq := ⟨s.ticket i, s.tier i, s.cohort i, s.deadline i, s.arrived i⟩

theorem low32 {h : Int} (h0 : 0 ≤ h) (h1 : h < 18446744073709551616) : ((BitVec.ofInt 64 h &&& BitVec.ofInt 64 4294967295).toNat : Int) = h % 4294967296 := by
  obtain ⟨n, rfl⟩ := Int.eq_ofNat_of_zero_le h0
  have hn : n < 18446744073709551616 := by omega
  have e : (BitVec.ofInt 64 (n : Int)).toNat = n := by simp [BitVec.toNat_ofInt]; omega
  rw [BitVec.toNat_and, e]
  have e2 : (BitVec.ofInt 64 4294967295).toNat = 2 ^ 32 - 1 := by decide
  rw [e2, Nat.and_two_pow_sub_one_eq_mod]
  omega

theorem cell_ok {h : Int} (h0 : 0 ≤ h) (h1 : h < 18446744073709551616) {w : World} {K : Value → World → Prop} (hK : K (.int .i64 (h % 4294967296)) w) : CallsV P 181 #[.int .u64 h] w K := by
  refine m_slab_Handle_Cell_ok ?_
  unfold m_slab_Handle_Cell
  have e : ((BitVec.ofInt (IntKind.bits .u64) h &&& BitVec.ofInt (IntKind.bits .u64) 4294967295).toNat : Int) = h % 4294967296 := low32 h0 h1
  rw [e, IntWalk.u64_in _ (by omega), IntWalk.i64_in _ (by omega)]
  exact hK

/-- the cell that a handle names -/
def SlabM.at (s : SlabM) (h : Int) : Option Nat :=
  if (h % 4294967296).toNat < s.n ∧ s.taken (h % 4294967296).toNat = true ∧ s.turns (h % 4294967296).toNat = h / 4294967296 then some (h % 4294967296).toNat else none

theorem at_ok {w : World} {pb cb : Nat} {s : SlabM} (hs : SlabAt w pb cb s) {h : Int} (h0 : 0 ≤ h) (h1 : h < 18446744073709551616) (ht : ∀ i, 0 ≤ s.turns i ∧ s.turns i ≤ 4294967295) {K : Value → World → Prop}
    (hK : K (.pointer ((s.at h).map fun i => ⟨cb, i * 8, none⟩)) w) : CallsV P 202 #[.pointer (some ⟨pb, 0, none⟩), .int .u64 h] w K := by
  refine m_slab_Slab_at_ok ?_
  unfold m_slab_Slab_at
  refine cell_ok h0 h1 ⟨_, rfl, ?_⟩
  obtain ⟨i, hi⟩ : ∃ i : Nat, h % 4294967296 = i := Int.eq_ofNat_of_zero_le (by omega)
  unfold SlabM.at at hK
  rw [hi] at hK ⊢
  simp only [Int.toNat_natCast] at hK ⊢
  refine nn_some (ld_slice hs.h_cells ?_)
  by_cases hlt : i < s.n
  · refine if_no (by simpa using hlt) (nn_some (ld_slice hs.h_cells (ix_nat hlt (ld_bool (by simpa using hs.c_taken i hlt) ?_))))
    by_cases htk : s.taken i = true
    · refine if_no (by simp [htk]) (nn_some (ld_slice hs.h_cells (ix_nat hlt (ld_int (by simpa using hs.c_turns i hlt) ?_))))
      have e1 : IntKind.wrap .u64 (s.turns i) = s.turns i := IntWalk.u64_in _ (by have := ht i; omega)
      have e2 : Int.fdiv h (2 ^ 32) = h / 4294967296 := by rw [Int.fdiv_eq_ediv_of_nonneg _ (by decide)]; rfl
      rw [e1, e2]
      by_cases he : s.turns i = h / 4294967296
      · refine if_no (by simp [he]) ?_
        unfold m_slab_Slab_at_c7
        refine nn_some (ld_slice hs.h_cells (ix_nat hlt ?_))
        simpa [m_slab_Slab_at_c7_o, hlt, htk, he] using hK
      · exact if_yes (by simp [he]) (by simpa [he] using hK)
    · exact if_yes (by simpa using htk) (by simpa [htk] using hK)
  · exact if_yes (by simpa using hlt) (by simpa [hlt] using hK)

/-- the model of Get -/
def SlabM.get (s : SlabM) (h : Int) : Rq × Int := match s.at h with
  | some i => (s.req i, 0)
  | none => (⟨0, 0, 0, 0, 0⟩, 6)

def Rq.v (r : Rq) : Value := .agg #[.int .u64 r.ticket, .int .i64 r.tier, .int .i64 r.cohort, .int .i64 r.deadline, .int .i64 r.arrived]

theorem at_lt {s : SlabM} {h : Int} {i : Nat} (hi : s.at h = some i) : i < s.n := by
  unfold SlabM.at at hi
  split at hi
  · rename_i h1
    cases hi
    exact h1.1
  · cases hi

theorem get_ok {w : World} {pb cb : Nat} {s : SlabM} (hs : SlabAt w pb cb s) {h : Int} (h0 : 0 ≤ h) (h1 : h < 18446744073709551616) (ht : ∀ i, 0 ≤ s.turns i ∧ s.turns i ≤ 4294967295) {K : Value → World → Prop}
    (hK : ∀ w', Only [] w w' → K (.tuple #[(s.get h).1.v, .int .i64 (s.get h).2]) w') : CallsV P 149 #[.pointer (some ⟨pb, 0, none⟩), .int .u64 h] w K := by
  refine m_slab_Slab_Get_ok ?_
  unfold m_slab_Slab_Get
  have hp := Nat.ne_of_lt hs.lt_pb
  have hc := Nat.ne_of_lt hs.lt_cb
  have ho : Only [] w (w.alloc (.cells #[(.int .u64 0), (.int .i64 0), (.int .i64 0), (.int .i64 0), (.int .i64 0)] 130)) := Only.alloc _ _
  have hs1 := hs.only ho (by simp) (by simp)
  refine al_intro ?_
  refine if_no (by simp) (at_ok hs1 h0 h1 ht ⟨_, rfl, ?_⟩)
  unfold SlabM.get at hK
  cases hat : s.at h with
  | none =>
    rw [hat] at hK
    simp only [Option.map_none, Option.isNone_none, if_true, addr_add, Nat.zero_add]
    refine St_intro (by simp [cell_new]) (by simp [frozen_new]) ?_
    refine St_intro (by simp [cell_new, cell_set]) (by simp [frozen_new, frozen_set]) ?_
    refine St_intro (by simp [cell_new, cell_set]) (by simp [frozen_new, frozen_set]) ?_
    refine St_intro (by simp [cell_new, cell_set]) (by simp [frozen_new, frozen_set]) ?_
    refine St_intro (by simp [cell_new, cell_set]) (by simp [frozen_new, frozen_set]) ?_
    refine ld_int (n := 0) (by simp [cell_new, cell_set]) (ld_int (n := 0) (by simp [cell_new, cell_set]) (ld_int (n := 0) (by simp [cell_new, cell_set]) (ld_int (n := 0) (by simp [cell_new, cell_set]) (ld_int (n := 0) (by simp [cell_new, cell_set]) ?_))))
    refine hK _ ?_
    refine Only.store (Only.store (Only.store (Only.store (Only.store ho (.inr (Nat.le_refl _)) ?_) (.inr (Nat.le_refl _)) ?_) (.inr (Nat.le_refl _)) ?_) (.inr (Nat.le_refl _)) ?_) (.inr (Nat.le_refl _)) ?_ <;> simp [cell_new, cell_set]
  | some i =>
    rw [hat] at hK
    have hi := at_lt hat
    simp only [Option.map_some, Option.isNone_some, Bool.false_eq_true, if_false, addr_add, Nat.zero_add, Nat.add_zero]
    refine nn_some ?_
    simp only [addr_add, Nat.add_zero, Nat.zero_add]
    refine ld_int (hs1.c_ticket i hi) (ld_int (hs1.c_tier i hi) (ld_int (hs1.c_cohort i hi) (ld_int (hs1.c_deadline i hi) (ld_int (hs1.c_arrived i hi) ?_))))
    refine St_intro (by simp [cell_new]) (by simp [frozen_new]) ?_
    refine St_intro (by simp [cell_new, cell_set]) (by simp [frozen_new, frozen_set]) ?_
    refine St_intro (by simp [cell_new, cell_set]) (by simp [frozen_new, frozen_set]) ?_
    refine St_intro (by simp [cell_new, cell_set]) (by simp [frozen_new, frozen_set]) ?_
    refine St_intro (by simp [cell_new, cell_set]) (by simp [frozen_new, frozen_set]) ?_
    refine ld_int (n := s.ticket i) (by simp [cell_new, cell_set]) (ld_int (n := s.tier i) (by simp [cell_new, cell_set]) (ld_int (n := s.cohort i) (by simp [cell_new, cell_set]) (ld_int (n := s.deadline i) (by simp [cell_new, cell_set]) (ld_int (n := s.arrived i) (by simp [cell_new, cell_set]) ?_))))
    refine hK _ ?_
    refine Only.store (Only.store (Only.store (Only.store (Only.store ho (.inr (Nat.le_refl _)) ?_) (.inr (Nat.le_refl _)) ?_) (.inr (Nat.le_refl _)) ?_) (.inr (Nat.le_refl _)) ?_) (.inr (Nat.le_refl _)) ?_ <;> simp [cell_new, cell_set]

/-- the model of Free -/
def SlabM.free (s : SlabM) (i : Nat) : SlabM :=
  { s with taken := upd s.taken i false, next := upd s.next i s.freed, freed := i, len := IntKind.wrap .i64 (s.len - 1) }

theorem free_ok {w : World} {pb cb : Nat} {s : SlabM} (hs : SlabAt w pb cb s) {h : Int} (h0 : 0 ≤ h) (h1 : h < 18446744073709551616) (ht : ∀ i, 0 ≤ s.turns i ∧ s.turns i ≤ 4294967295) {i : Nat} (hat : s.at h = some i) {K : Value → World → Prop}
    (hK : ∀ w', Only [pb, cb] w w' → SlabAt w' pb cb (s.free i) → K (.int .i64 0) w') : CallsV P 222 #[.pointer (some ⟨pb, 0, none⟩), .int .u64 h] w K := by
  refine m_slab_Slab_Free_ok ?_
  unfold m_slab_Slab_Free
  have hi := at_lt hat
  have hih : h % 4294967296 = (i : Int) := by
    unfold SlabM.at at hat
    split at hat
    · cases hat; omega
    · cases hat
  refine if_no (by simp) (at_ok hs h0 h1 ht ⟨_, rfl, ?_⟩)
  rw [hat]
  refine if_no (by simp) (nn_some (ld_int hs.h_freed ?_))
  simp only [Option.map_some]
  refine nn_some ?_
  simp only [addr_add, Nat.add_zero, Nat.zero_add]
  have s1 := hs.set_taken hi false
  have o1 : Only [pb, cb] w _ := (Only.refl [pb, cb] w).st (v := .bool false) (.inl (by simp)) (hs.c_taken i hi)
  refine St_at (hs.c_taken i hi) (hs.z_cb _) (nn_some ?_)
  simp only [addr_add, Nat.add_zero, Nat.zero_add]
  have s2 := s1.set_next hi s.freed
  have o2 := o1.st (v := .int .i64 s.freed) (.inl (by simp)) (s1.c_next i hi)
  refine St_at (s1.c_next i hi) (s1.z_cb _) ?_
  refine cell_ok h0 h1 ⟨_, rfl, nn_some ?_⟩
  rw [hih]
  simp only [addr_add, Nat.add_zero, Nat.zero_add]
  have s3 := s2.set_freed (i : Int)
  have o3 := o2.st (v := .int .i64 (i : Int)) (.inl (by simp)) s2.h_freed
  refine St_at s2.h_freed (s2.z_pb _) (nn_some (ld_int s3.h_len (nn_some ?_)))
  simp only [addr_add, Nat.add_zero, Nat.zero_add]
  exact St_at s3.h_len (s3.z_pb _) (hK _ (o3.st (.inl (by simp)) s3.h_len) (s3.set_len _))

end Go.M

/- What the functions of the slab do: New, Len, Take. -/
set_option linter.all false
set_option linter.constructorNameAsVariable false
namespace Go.M
open Go Go.Eng Go.RowKit

def SlabM.new (n : Nat) : SlabM := { n := n, ticket := fun _ => 0, tier := fun _ => 0, cohort := fun _ => 0, deadline := fun _ => 0, arrived := fun _ => 0, turns := fun _ => 0, taken := fun _ => false, next := fun _ => 0, freed := -1, fresh := 0, len := 0 }

theorem slabNew_ok {n : Nat} (h1 : 1 ≤ n) (h2 : n ≤ 1024) {w : World} {K : Value → World → Prop}
    (hK : ∀ w' pb cb, Only [] w w' → w.heap.size ≤ pb → w.heap.size ≤ cb → SlabAt w' pb cb (SlabM.new n) → K (.tuple #[.pointer (some ⟨pb, 0, none⟩), .int .i64 0]) w') :
    CallsV P 124 #[.int .i64 n] w K := by
  refine m_slab_New_ok ?_
  unfold m_slab_New
  refine if_no (by simp; omega) (if_no (by simp; omega) ?_)
  unfold m_slab_New_c3
  refine make_ok W2 (t := 319) (e := 351) (ti := ti351) rfl rfl rfl (by simp [ti351]; omega) (by omega) ⟨_, _, _, rfl, al_intro ?_⟩
  simp only [m_slab_New_c3_o]
  rw [World.size_alloc]
  refine hK _ (w.heap.size + 1) w.heap.size ((Only.alloc _ _).trans (Only.alloc _ _)) (by omega) (Nat.le_refl _) ?_
  have hm : ∀ i k, i < n → k < 8 → (madeCells ti351.zero.cells (n * ti351.size))[i * 8 + k]? = ti351.zero.cells[k]? := fun i k hi hk => by
    rw [made_get _ _ _ (by show i * 8 + k < n * 8; omega) (by show 0 < 8; omega)]
    have : (i * 8 + k) % ti351.zero.cells.size = k := by show (i * 8 + k) % 8 = k; omega
    rw [this]
  have hm0 : ∀ i, i < n → (madeCells ti351.zero.cells (n * ti351.size))[i * 8]? = ti351.zero.cells[0]? := fun i hi => hm i 0 hi (by omega)
  constructor <;> (try intro i) <;> (try intro hi) <;> (try simp [cell_new, frozen_new, World.size_alloc, SlabM.new])
  all_goals first | omega | (rw [hm0 i hi]; rfl) | (rw [hm i _ hi (by omega)]; rfl)

theorem slabLen_ok {w : World} {pb cb : Nat} {s : SlabM} (hs : SlabAt w pb cb s) {K : Value → World → Prop} (hK : K (.int .i64 s.len) w) : CallsV P 146 #[.pointer (some ⟨pb, 0, none⟩)] w K := by
  refine m_slab_Slab_Len_ok ?_
  unfold m_slab_Slab_Len
  exact if_no (by simp) (nn_some (ld_int hs.h_len hK))

theorem or32 {t i : Int} (h0 : 0 ≤ t) (h1 : t ≤ 4294967295) (h2 : 0 ≤ i) (h3 : i < 4294967296) : ((BitVec.ofInt 64 (t * 4294967296) ||| BitVec.ofInt 64 i).toNat : Int) = t * 4294967296 + i := by
  obtain ⟨t, rfl⟩ := Int.eq_ofNat_of_zero_le h0
  obtain ⟨i, rfl⟩ := Int.eq_ofNat_of_zero_le h2
  have e1 : (BitVec.ofInt 64 ((t : Int) * 4294967296)).toNat = t * 4294967296 := by simp [BitVec.toNat_ofInt]; omega
  have e2 : (BitVec.ofInt 64 (i : Int)).toNat = i := by simp [BitVec.toNat_ofInt]; omega
  rw [BitVec.toNat_or, e1, e2]
  have e3 : t * 4294967296 ||| i = t * 4294967296 + i := by
    have := Nat.two_pow_add_eq_or_of_lt (i := 32) (b := i) (by omega) t
    rw [show (2 ^ 32 : Nat) = 4294967296 from rfl, Nat.mul_comm] at this
    exact this.symm
  rw [e3]
  omega

/-- the request in a block of its own -/
structure ReqAt (w : World) (qb : Nat) (q : Rq) : Prop where
  c0 : w.cell? ⟨qb, 0, none⟩ = some (.int .u64 q.ticket)
  c1 : w.cell? ⟨qb, 1, none⟩ = some (.int .i64 q.tier)
  c2 : w.cell? ⟨qb, 2, none⟩ = some (.int .i64 q.cohort)
  c3 : w.cell? ⟨qb, 3, none⟩ = some (.int .i64 q.deadline)
  c4 : w.cell? ⟨qb, 4, none⟩ = some (.int .i64 q.arrived)

theorem ReqAt.drew {w : World} {qb : Nat} {q : Rq} (h : ReqAt w qb q) : ReqAt w.drew qb q := ⟨h.c0, h.c1, h.c2, h.c3, h.c4⟩

/-- the cell i is taken for q -/
def SlabM.put (s : SlabM) (i : Nat) (q : Rq) : SlabM :=
  { s with ticket := upd s.ticket i q.ticket, tier := upd s.tier i q.tier, cohort := upd s.cohort i q.cohort, deadline := upd s.deadline i q.deadline, arrived := upd s.arrived i q.arrived, turns := upd s.turns i (s.turns i + 1), taken := upd s.taken i true, len := s.len + 1 }

theorem take15_ok {w : World} {pb cb qb : Nat} {s : SlabM} {q : Rq} (hs : SlabAt w pb cb s) (hq : ReqAt w qb q) {i : Nat} (hi : i < s.n) (hi4 : i < 4294967296) (ht : 0 ≤ s.turns i ∧ s.turns i + 1 ≤ 4294967295)
    (hlen : 0 ≤ s.len ∧ s.len + 1 ≤ 9223372036854775807) {out : Nat × List Value → World → Prop}
    (hK : ∀ w', Only [pb, cb] w w' → SlabAt w' pb cb (s.put i q) → out (0, [.int .u64 ((s.turns i + 1) * 4294967296 + i), .int .i64 0]) w') :
    m_slab_Slab_Take_c15 [.pointer (some ⟨pb, 0, none⟩), .pointer (some ⟨qb, 0, none⟩), .int .i64 (i : Int)] w out := by
  unfold m_slab_Slab_Take_c15
  refine nn_some (ld_slice hs.h_cells (ix_nat hi ?_))
  simp only [addr_add, Nat.add_zero, Nat.zero_add, Int.toNat_natCast]
  refine ld_int hq.c0 (ld_int hq.c1 (ld_int hq.c2 (ld_int hq.c3 (ld_int hq.c4 ?_))))
  have o0 := Only.refl [pb, cb] w
  have s1 := hs.set_ticket hi q.ticket
  have o1 := o0.st (v := .int .u64 q.ticket) (.inl (by simp)) (hs.c_ticket i hi)
  refine St_at (hs.c_ticket i hi) (hs.z_cb _) ?_
  have s2 := s1.set_tier hi q.tier
  have o2 := o1.st (v := .int .i64 q.tier) (.inl (by simp)) (s1.c_tier i hi)
  refine St_at (s1.c_tier i hi) (s1.z_cb _) ?_
  have s3 := s2.set_cohort hi q.cohort
  have o3 := o2.st (v := .int .i64 q.cohort) (.inl (by simp)) (s2.c_cohort i hi)
  refine St_at (s2.c_cohort i hi) (s2.z_cb _) ?_
  have s4 := s3.set_deadline hi q.deadline
  have o4 := o3.st (v := .int .i64 q.deadline) (.inl (by simp)) (s3.c_deadline i hi)
  refine St_at (s3.c_deadline i hi) (s3.z_cb _) ?_
  have s5 := s4.set_arrived hi q.arrived
  have o5 := o4.st (v := .int .i64 q.arrived) (.inl (by simp)) (s4.c_arrived i hi)
  refine St_at (s4.c_arrived i hi) (s4.z_cb _) ?_
  have s6 := s5.set_taken hi true
  have o6 := o5.st (v := .bool true) (.inl (by simp)) (s5.c_taken i hi)
  refine St_at (s5.c_taken i hi) (s5.z_cb _) ?_
  refine ld_int (s6.c_turns i hi) ?_
  have e1 : IntKind.wrap .u32 (s.turns i + 1) = s.turns i + 1 := IntWalk.u32_in _ (by omega)
  have e2 : IntKind.wrap .i64 (s.len + 1) = s.len + 1 := IntWalk.i64_in _ (by omega)
  show St _ (.int .u32 (IntKind.wrap .u32 (s.turns i + 1))) _ _
  rw [e1]
  have s7 := s6.set_turns hi (s.turns i + 1)
  have o7 := o6.st (v := .int .u32 (s.turns i + 1)) (.inl (by simp)) (s6.c_turns i hi)
  refine St_at (s6.c_turns i hi) (s6.z_cb _) (nn_some ?_)
  simp only [addr_add, Nat.add_zero, Nat.zero_add]
  refine ld_int s7.h_len (nn_some ?_)
  simp only [addr_add, Nat.add_zero, Nat.zero_add]
  show St _ (.int .i64 (IntKind.wrap .i64 (s.len + 1))) _ _
  rw [e2]
  have s8 := s7.set_len (s.len + 1)
  have o8 := o7.st (v := .int .i64 (s.len + 1)) (.inl (by simp)) s7.h_len
  refine St_at s7.h_len (s7.z_pb _) ?_
  have ht8 := s8.c_turns i hi
  simp only [upd_same] at ht8
  refine ld_int ht8 ?_
  have e3 : IntKind.wrap .u64 ((IntKind.wrap .u64 (s.turns i + 1)) * 2 ^ 32) = (s.turns i + 1) * 4294967296 := by
    rw [IntWalk.u64_in (s.turns i + 1) (by omega)]
    exact IntWalk.u64_in _ (by show 0 ≤ (s.turns i + 1) * 4294967296 ∧ (s.turns i + 1) * 4294967296 ≤ 18446744073709551615; omega)
  have e4 : IntKind.wrap .u64 (i : Int) = i := IntWalk.u64_in _ (by omega)
  have e5 : ((BitVec.ofInt (IntKind.bits .u64) ((s.turns i + 1) * 4294967296) ||| BitVec.ofInt (IntKind.bits .u64) (i : Int)).toNat : Int) = (s.turns i + 1) * 4294967296 + i := or32 (by omega) (by omega) (by omega) (by omega)
  rw [e3, e4, e5, IntWalk.u64_in _ (by omega)]
  exact hK _ o8 s8

/-- the model of Take: which cell -/
def SlabM.free? (s : SlabM) : Int := if s.freed = -1 then s.fresh else s.freed
def SlabM.take (s : SlabM) (i : Nat) (q : Rq) : SlabM :=
  (if s.freed = -1 then { s with fresh := s.fresh + 1 } else { s with freed := s.next i }).put i q

theorem take_ok {w : World} {pb cb : Nat} {s : SlabM} {q : Rq} (hs : SlabAt w pb cb s) {i : Nat} (hfi : s.free? = i) (hi : i < s.n) (hn : s.n ≤ 1024) (ht : 0 ≤ s.turns i ∧ s.turns i + 1 ≤ 4294967295)
    (hlen : 0 ≤ s.len ∧ s.len + 1 ≤ 9223372036854775807) {K : Value → World → Prop}
    (hK : ∀ w', Only [pb, cb] w w' → SlabAt w' pb cb (s.take i q) → K (.tuple #[.int .u64 ((s.turns i + 1) * 4294967296 + i), .int .i64 0]) w') :
    CallsV P 180 #[.pointer (some ⟨pb, 0, none⟩), q.v] w K := by
  refine m_slab_Slab_Take_ok ?_
  unfold m_slab_Slab_Take
  refine al_intro (if_no (by simp) (nn_some ?_))
  have o0 : Only [pb, cb] w (w.alloc (.cells #[(.int .u64 q.ticket), (.int .i64 q.tier), (.int .i64 q.cohort), (.int .i64 q.deadline), (.int .i64 q.arrived)] 130)) := Only.alloc _ _
  have hs0 := hs.only (S := []) (Only.alloc w (.cells #[(.int .u64 q.ticket), (.int .i64 q.tier), (.int .i64 q.cohort), (.int .i64 q.deadline), (.int .i64 q.arrived)] 130)) (by simp) (by simp)
  have hq0 : ReqAt (w.alloc (.cells #[(.int .u64 q.ticket), (.int .i64 q.tier), (.int .i64 q.cohort), (.int .i64 q.deadline), (.int .i64 q.arrived)] 130)) w.heap.size q := by constructor <;> simp [cell_new]
  have hp := Nat.ne_of_lt hs.lt_pb
  unfold SlabM.free? at hfi
  unfold SlabM.take at hK
  refine ld_int hs0.h_freed ?_
  by_cases hf : s.freed = -1
  · rw [if_pos hf] at hfi hK
    refine if_no (by simp [hf]) (nn_some ?_)
    have hs1 := hs0.drew
    have hq1 := hq0.drew
    refine ld_int hs1.h_fresh (nn_some (ld_slice hs1.h_cells (if_yes (by simp; omega) (nn_some (ld_int hs1.h_fresh (nn_some (ld_int hs1.h_fresh (nn_some ?_))))))))
    simp only [addr_add, Nat.add_zero, Nat.zero_add]
    have e : IntKind.wrap .i64 (s.fresh + 1) = s.fresh + 1 := IntWalk.i64_in _ (by omega)
    rw [e]
    have o1 := (o0.trans (Only.drew _)).st (v := .int .i64 (s.fresh + 1)) (.inl (by simp)) hs1.h_fresh
    have hs2 := hs1.set_fresh (s.fresh + 1)
    refine St_at hs1.h_fresh (hs1.z_pb _) ?_
    rw [hfi] at hs2 o1 ⊢
    refine take15_ok (q := q) hs2 ⟨(cell_set_ne (.inl (Ne.symm hp))).trans hq1.c0, (cell_set_ne (.inl (Ne.symm hp))).trans hq1.c1, (cell_set_ne (.inl (Ne.symm hp))).trans hq1.c2, (cell_set_ne (.inl (Ne.symm hp))).trans hq1.c3, (cell_set_ne (.inl (Ne.symm hp))).trans hq1.c4⟩ hi (by omega) ht hlen fun w' ho hat => ?_
    have := hK w' (o1.trans ho) (by rw [hfi]; exact hat)
    simpa [m_slab_Slab_Take_c15_o] using this
  · rw [if_neg hf] at hfi hK
    refine if_yes (by simpa using hf) (nn_some (ld_slice hs0.h_cells ?_))
    rw [hfi]
    refine ix_nat hi ?_
    simp only [addr_add, Nat.add_zero, Nat.zero_add, Int.toNat_natCast]
    refine ld_int (hs0.c_next i hi) (nn_some ?_)
    simp only [addr_add, Nat.add_zero, Nat.zero_add]
    have o1 := o0.st (v := .int .i64 (s.next i)) (.inl (by simp)) hs0.h_freed
    have hs2 := hs0.set_freed (s.next i)
    refine St_at hs0.h_freed (hs0.z_pb _) ?_
    refine take15_ok (q := q) hs2 ⟨(cell_set_ne (.inl (Ne.symm hp))).trans hq0.c0, (cell_set_ne (.inl (Ne.symm hp))).trans hq0.c1, (cell_set_ne (.inl (Ne.symm hp))).trans hq0.c2, (cell_set_ne (.inl (Ne.symm hp))).trans hq0.c3, (cell_set_ne (.inl (Ne.symm hp))).trans hq0.c4⟩ hi (by omega) ht hlen fun w' ho hat => ?_
    have := hK w' (o1.trans ho) hat
    simpa [m_slab_Slab_Take_c15_o] using this

end Go.M
