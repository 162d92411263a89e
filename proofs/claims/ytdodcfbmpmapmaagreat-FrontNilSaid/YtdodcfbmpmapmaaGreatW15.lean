/- Proofs about the front of the overload controller, part 15: C4 C20 C22 C12 C23 C24 C25. -/
import Derived.Test.YtdodcfbmpmapmaaGreatW14
import Derived.Test.YtdodcfbmpmapmaaGreatW07
import Derived.Test.YtdodcfbmpmapmaaGreatW12
import Derived.Test.YtdodcfbmpmapmaaGreatW13
import Derived.Test.YtdodcfbmpmapmaaGreatW04
import Derived.IntWalk
set_option linter.all false
set_option linter.constructorNameAsVariable false
set_option linter.unusedVariables false
/- What the functions of the log do. -/
set_option linter.all false
set_option linter.constructorNameAsVariable false
set_option maxRecDepth 100000
namespace Go.M
open Go Go.Eng Go.RowKit

structure Oc where
  ticket : Int
  tier : Int
  cohort : Int
  why : Int
  at_ : Int
  sojourn : Int
  deriving DecidableEq

def Oc.cells (o : Oc) : List Value := [.int .u64 o.ticket, .int .i64 o.tier, .int .i64 o.cohort, .int .u8 o.why, .int .i64 o.at_, .int .i64 o.sojourn]
def Oc.v (o : Oc) : Value := .agg o.cells.toArray

/-- a log: its own block, the block of its outcomes -/
structure LogAt (w : World) (lb : Nat) (ob : Option Nat) (l : List Oc) : Prop where
  lt : lb < w.heap.size
  z : ∀ i, w.frozen? ⟨lb, i, none⟩ = false
  row : ∃ sv, w.cell? ⟨lb, 0, none⟩ = some sv ∧ w.ownsRow 0 330 6 sv l.length (l.flatMap Oc.cells) ∧ sv.ownBlock = ob
  ne : ob ≠ some lb

theorem LogAt.only {S : List Nat} {w w' : World} {lb : Nat} {ob : Option Nat} {l : List Oc} (h : LogAt w lb ob l) (ho : Only S w w') (h1 : lb ∉ S) (h2 : ∀ b, ob = some b → b ∉ S) : LogAt w' lb ob l := by
  obtain ⟨sv, g1, g2, g3⟩ := h.row
  exact ⟨Nat.lt_of_lt_of_le h.lt ho.size, fun i => (ho.frozen h.lt h1).trans (h.z i), ⟨sv, ho.cell g1 h1, own_kept g2 ho (fun b hb => h2 b (g3 ▸ hb)), g3⟩, h.ne⟩

theorem logNew_ok {w : World} {K : Value → World → Prop} (hK : ∀ w', Only [] w w' → w'.heap.size = w.heap.size + 1 → LogAt w' w.heap.size none [] → K (.pointer (some ⟨w.heap.size, 0, none⟩)) w') : CallsV P 79 #[] w K := by
  refine m_tally_New_ok ?_
  unfold m_tally_New
  refine al_intro (hK _ (Only.alloc _ _) (by rw [World.size_alloc]) ⟨by rw [World.size_alloc]; omega, fun i => by simp [frozen_new], ⟨.slice none 0 0, by simp [cell_new], World.ownsRow_nil _ _ _ _, rfl⟩, by simp⟩)

theorem row_slice {w : World} {base : Nat} {e : TypeId} {size : Nat} {v : Value} {n : Nat} {xs : List Value} (h : w.ownsRow base e size v n xs) : ∃ a c, v = .slice a n c := by
  rcases h.2 with ⟨rfl, rfl⟩ | ⟨g, cap, cur, rfl, _⟩
  · exact ⟨_, _, rfl⟩
  · exact ⟨_, _, rfl⟩

theorem logLen_ok {w : World} {lb : Nat} {ob : Option Nat} {l : List Oc} (h : LogAt w lb ob l) {K : Value → World → Prop} (hK : K (.int .i64 (l.length : Int)) w) : CallsV P 33 #[.pointer (some ⟨lb, 0, none⟩)] w K := by
  refine m_tally_Log_Len_ok ?_
  unfold m_tally_Log_Len
  obtain ⟨sv, g1, g2, g3⟩ := h.row
  obtain ⟨a, c, rfl⟩ := row_slice g2
  exact if_no (by simp) (nn_some (ld_slice g1 hK))

theorem logAdd_ok {w : World} {lb : Nat} {ob : Option Nat} {l : List Oc} (h : LogAt w lb ob l) (o : Oc) (hn : l.length + 1 ≤ 1000000) {K : Value → World → Prop}
    (hK : ∀ w' g, Only (lb :: ob.toList) w w' → LogAt w' lb (some g) (l ++ [o]) → (ob = some g ∨ w.heap.size ≤ g) → K (.tuple #[]) w') : CallsV P 179 #[.pointer (some ⟨lb, 0, none⟩), o.v] w K := by
  refine m_tally_Log_Add_ok ?_
  unfold m_tally_Log_Add
  obtain ⟨sv, g1, g2, g3⟩ := h.row
  obtain ⟨a, c, rfl⟩ := row_slice g2
  refine al_intro (if_yes (by simp) (nn_some ?_))
  have hlb := Nat.ne_of_lt h.lt
  have o1 : Only (lb :: ob.toList) w (w.alloc (.cells #[.int .u64 o.ticket, .int .i64 o.tier, .int .i64 o.cohort, .int .u8 o.why, .int .i64 o.at_, .int .i64 o.sojourn] 330)) := Only.alloc _ _
  have o2 := o1.trans (Only.drew _)
  simp only [addr_add, Nat.add_zero, Nat.zero_add]
  refine ld_slice (p := a) (l := l.length) (c := c) ((Only.cell (S := []) ((Only.alloc _ _).trans (Only.drew _)) g1 (by simp))) ?_
  refine ld_int (n := o.ticket) (by simp [cell_drew, cell_new]) (ld_int (n := o.tier) (by simp [cell_drew, cell_new]) (ld_int (n := o.cohort) (by simp [cell_drew, cell_new]) (ld_int (n := o.why) (by simp [cell_drew, cell_new]) (ld_int (n := o.at_) (by simp [cell_drew, cell_new]) (ld_int (n := o.sojourn) (by simp [cell_drew, cell_new]) ?_)))))
  refine al_intro ?_
  obtain ⟨W, hW⟩ : ∃ W, ((w.alloc (.cells #[.int .u64 o.ticket, .int .i64 o.tier, .int .i64 o.cohort, .int .u8 o.why, .int .i64 o.at_, .int .i64 o.sojourn] 330)).drew.alloc (.cells #[.int .u64 o.ticket, .int .i64 o.tier, .int .i64 o.cohort, .int .u8 o.why, .int .i64 o.at_, .int .i64 o.sojourn] 330)) = W := ⟨_, rfl⟩
  have o3 : Only (lb :: ob.toList) w W := by rw [← hW]; exact o2.trans (Only.alloc _ _)
  have o3' : Only [] w W := by rw [← hW]; exact ((Only.alloc _ _).trans (Only.drew _)).trans (Only.alloc _ _)
  have hb3 : ∀ j u, o.cells[j]? = some u → W.cell? ⟨w.heap.size + 1, j, none⟩ = some u := fun j u hj => by
    rw [← hW, cell_new, if_pos (by rw [size_drew, World.size_alloc])]; simpa [Oc.cells] using hj
  rw [hW]
  simp only [size_drew, World.size_alloc]
  have hc := o3'.cell g1 (by simp)
  refine ⟨hc, ?_⟩
  have hown := own_kept g2 o3' (by simp)
  have hnW : w.heap.size ≤ W.heap.size := o3'.size
  refine append_ok W2 (t := 186) (e := 330) (ti := ti330) rfl rfl rfl (by simp [ti330]) rfl hown (news := o.cells) rfl hb3 (by simp [Oc.cells, Value.oneCell']) (by have := maxLen_big; omega) (by show (l.length + 1) * 48 ≤ 140737488355328; omega) fun g cap w' h1 h2 h3 => ⟨_, _, _, rfl, nn_some ?_⟩
  simp only [addr_add, Nat.add_zero, Nat.zero_add]
  have o4 : Only (lb :: ob.toList) W w' := own_only hown h2 (fun b hb => by rw [g3] at hb; subst hb; simp)
  have hgl : g ≠ lb := by
    rcases h3 with h3 | h3
    · intro e
      subst e
      rw [g3] at h3
      exact h.ne h3
    · have := h.lt
      omega
  have hl' : w'.cell? ⟨lb, 0, none⟩ = some (.slice a l.length c) := (World.cell?_of_block (a := ⟨lb, 0, none⟩) (h2.block lb (cell_lt hc) (fun e => h.ne (by rw [← g3, ← e])))).trans hc
  have hz' : ∀ i, w'.frozen? ⟨lb, i, none⟩ = false := fun i =>
    (World.frozen?_of_block (a := ⟨lb, i, none⟩) (h2.block lb (cell_lt hc) (fun e => h.ne (by rw [← g3, ← e])))).trans ((o3'.frozen h.lt (by simp)).trans (h.z i))
  refine St_at hl' (hz' _) (hK _ g ((o3.trans o4).st (.inl (by simp)) hl') ⟨?_, fun i => (frozen_set _ _ _ _).trans (hz' i), ⟨_, cell_set_eq hl', ?_, rfl⟩, by simpa using hgl⟩ ?_)
  · rw [size_setCell]; exact Nat.lt_of_lt_of_le h.lt (Nat.le_trans hnW h2.size)
  · have := own_kept (S := [lb]) (w' := w'.setCell ⟨lb, 0, none⟩ (.slice (some ⟨g, 0, none⟩) (l.length + 1) cap)) h1 ((Only.refl [lb] w').st (.inl (by simp)) hl') (fun b hb => by simp [Value.ownBlock] at hb; subst hb; simpa using hgl)
    have e : (l ++ [o]).flatMap Oc.cells = l.flatMap Oc.cells ++ o.cells := by simp
    have e2 : (l ++ [o]).length = l.length + 1 := by simp
    rw [e, e2]
    exact this
  · rcases h3 with h3 | h3
    · exact .inl (by rw [← g3]; exact h3)
    · exact .inr (by omega)

end Go.M

/- What the functions of the heap do: Put, Remove. -/
set_option linter.all false
set_option linter.constructorNameAsVariable false
set_option maxRecDepth 100000
namespace Go.M
open Go Go.Eng Go.RowKit

variable {w : World} {K : Value → World → Prop} {hb ab n : Nat} {ob : Option Nat} {l : List En} {at_ : Nat → Int}

theorem HInv.add {V : Nat → En} {m N : Nat} {A : Nat → Int} (h : HInv V m N A) {i : Nat} (hi : i < N) (ha : A i = -1) (hv : (V m).i = i) : HInv V (m + 1) N (upd A i m) := by
  refine ⟨fun k hk => ?_, fun k hk => ?_, fun j hj hA => ?_⟩
  · by_cases e : k = m
    · subst e; omega
    · exact h.lt k (by omega)
  · by_cases e : k = m
    · subst e; rw [hv, upd_same]
    · have := h.here k (by omega)
      rw [upd_other (fun e2 => by rw [e2, ha] at this; omega)]; exact this
  · by_cases e : j = i
    · subst e; exact ⟨m, by omega, upd_same _ _ _, hv⟩
    · rw [upd_other e] at hA ⊢
      obtain ⟨k, h1, h2, h3⟩ := h.there j hj hA
      exact ⟨k, by omega, h2, h3⟩

theorem HInv.pop {V : Nat → En} {m N : Nat} {A : Nat → Int} (h : HInv V (m + 1) N A) : HInv V m N (upd A (V m).i (-1)) := by
  refine ⟨fun k hk => h.lt k (by omega), fun k hk => ?_, fun j hj hA => ?_⟩
  · rw [upd_other (fun e => by have := h.inj (show k < m + 1 by omega) (show m < m + 1 by omega) e; omega)]; exact h.here k (by omega)
  · by_cases e : j = (V m).i
    · rw [e, upd_same] at hA; exact absurd rfl hA
    · rw [upd_other e] at hA ⊢
      obtain ⟨k, h1, h2, h3⟩ := h.there j hj hA
      refine ⟨k, ?_, h2, h3⟩
      by_cases e2 : k = m
      · subst e2; exact absurd h3.symm e
      · omega

theorem inH_pop {V : Nat → En} {m N : Nat} {A : Nat → Int} (h : HInv V (m + 1) N A) (x : En) : InH V m x ↔ InH V (m + 1) x ∧ x.i ≠ (V m).i := by
  constructor
  · rintro ⟨k, hk, rfl⟩
    exact ⟨⟨k, by omega, rfl⟩, fun e => by have := h.inj (show k < m + 1 by omega) (show m < m + 1 by omega) e; omega⟩
  · rintro ⟨⟨k, hk, rfl⟩, hne⟩
    refine ⟨k, ?_, rfl⟩
    by_cases e : k = m
    · subst e; exact absurd rfl hne
    · omega

theorem inH_add {V : Nat → En} {m : Nat} (x : En) : InH V (m + 1) x ↔ InH V m x ∨ x = V m := by
  constructor
  · rintro ⟨k, hk, rfl⟩
    by_cases e : k = m
    · subst e; exact .inr rfl
    · exact .inl ⟨k, by omega, rfl⟩
  · rintro (⟨k, hk, rfl⟩ | rfl)
    · exact ⟨k, by omega, rfl⟩
    · exact ⟨m, by omega, rfl⟩

theorem flat_take {α : Type} {enc : α → List Value} {s : Nat} (hs : ∀ x, (enc x).length = s) : ∀ (l : List α) (m : Nat), (l.flatMap enc).take (m * s) = (l.take m).flatMap enc
  | [], m => by simp
  | x :: l, 0 => by simp
  | x :: l, m + 1 => by
    have e : (m + 1) * s = (enc x).length + m * s := by rw [hs, Nat.succ_mul]; omega
    rw [List.flatMap_cons, e, List.take_append, List.take_succ_cons, List.flatMap_cons, ← flat_take hs l m, List.take_of_length_le (by omega)]
    simp

theorem heapPut_ok (h : HeapAt w hb ab ob n l at_) {i : Nat} (hi : i < n) (hat : at_ i = -1) (hok : HeapOk (el l) l.length) (hinv : HInv (el l) l.length n at_) (hlen : l.length + 1 ≤ 1024) {key tie : Int}
    (hK : ∀ w' ob' l' at', Only (hb :: ab :: ob.toList) w w' → HeapAt w' hb ab ob' n l' at' → (ob' = ob ∨ ∃ g, ob' = some g ∧ w.heap.size ≤ g) → PutH l l' n at_ at' ⟨key, tie, i⟩ → K (.int .i64 0) w') :
    CallsV P 183 #[.pointer (some ⟨hb, 0, none⟩), .int .i64 (i : Int), .int .i64 key, .int .u64 tie] w K := by
  refine m_heap_Heap_Put_ok ?_
  unfold m_heap_Heap_Put
  refine if_no (by simp) (heapMember_ok h ⟨_, rfl, if_no (by simp; omega) (nn_some ?_)⟩)
  simp only [addr_add, Nat.add_zero, Nat.zero_add]
  refine ld_slice h.h_at (ix_nat hi ?_)
  simp only [addr_add, Nat.add_zero, Nat.zero_add, Int.toNat_natCast, Nat.mul_one]
  refine ld_int (h.c_at i hi) (if_no (by simp [hat]) (nn_some ?_))
  obtain ⟨sv, g1, g2, g3⟩ := h.row
  obtain ⟨a, c, rfl⟩ := row_slice g2
  simp only [addr_add, Nat.add_zero, Nat.zero_add]
  refine ld_slice g1 (al_intro ?_)
  obtain ⟨e, he⟩ : ∃ e : En, e = ⟨key, tie, i⟩ := ⟨_, rfl⟩
  obtain ⟨W, hW⟩ : ∃ W, w.alloc (.cells #[.int .i64 key, .int .u64 tie, .int .i64 (i : Int)] 377) = W := ⟨_, rfl⟩
  have o0 : Only [] w W := by rw [← hW]; exact Only.alloc _ _
  have hb3 : ∀ j u, e.cells[j]? = some u → W.cell? ⟨w.heap.size, j, none⟩ = some u := fun j u hj => by
    rw [← hW, cell_new, if_pos rfl]; rw [he] at hj; simpa [En.cells] using hj
  rw [hW]
  have h0 := h.only o0 (by simp) (by simp) (by simp)
  have hown := own_kept g2 o0 (by simp)
  have hc0 := o0.cell g1 (by simp)
  refine append_ok W2 (t := 322) (e := 377) (ti := ti377) rfl rfl rfl (by simp [ti377]) rfl hown (news := e.cells) rfl hb3 (by simp [En.cells, Value.oneCell']) (by have := maxLen_big; omega) (by show (l.length + 1) * 24 ≤ 140737488355328; omega) fun g cap w' h1 h2 h3 => ⟨_, _, _, rfl, nn_some ?_⟩
  simp only [addr_add, Nat.add_zero, Nat.zero_add]
  have o4 : Only (hb :: ab :: ob.toList) W w' := own_only hown h2 (fun b hb => by rw [g3] at hb; subst hb; simp)
  have hWs := o0.size
  have hgl : g ≠ hb ∧ g ≠ ab := by
    rcases h3 with h3 | h3
    · rw [g3] at h3
      exact ⟨fun e => h.nb_hb (by rw [h3, e]), fun e => h.nb_ab (by rw [h3, e])⟩
    · have := h.lt_hb
      have := h.lt_ab
      omega
  have ne1 : (some hb : Option Nat) ≠ (Value.slice a l.length c).ownBlock := fun e => h.nb_hb (by rw [← g3, ← e])
  have ne2 : (some ab : Option Nat) ≠ (Value.slice a l.length c).ownBlock := fun e => h.nb_ab (by rw [← g3, ← e])
  have hl' : w'.cell? ⟨hb, 0, none⟩ = some (.slice a l.length c) := (World.cell?_of_block (a := ⟨hb, 0, none⟩) (h2.block hb h0.lt_hb ne1)).trans hc0
  have hz1 : ∀ i, w'.frozen? ⟨hb, i, none⟩ = false := fun i => (World.frozen?_of_block (a := ⟨hb, i, none⟩) (h2.block hb h0.lt_hb ne1)).trans (h0.z_hb i)
  have hz2 : ∀ i, w'.frozen? ⟨ab, i, none⟩ = false := fun i => (World.frozen?_of_block (a := ⟨ab, i, none⟩) (h2.block ab h0.lt_ab ne2)).trans (h0.z_ab i)
  have o5 := (o0.mono (T := hb :: ab :: ob.toList) (by simp)).trans o4
  have o6 := o5.st (v := .slice (some ⟨g, 0, none⟩) (l.length + 1) cap) (.inl (by simp)) hl'
  have hst : Only [hb] w' (w'.setCell ⟨hb, 0, none⟩ (.slice (some ⟨g, 0, none⟩) (l.length + 1) cap)) := (Only.refl [hb] w').st (.inl (by simp)) hl'
  have hat2 : HeapAt (w'.setCell ⟨hb, 0, none⟩ (.slice (some ⟨g, 0, none⟩) (l.length + 1) cap)) hb ab (some g) n (l ++ [e]) at_ := by
    refine ⟨h.ne, ?_, ?_, fun i => (frozen_set _ _ _ _).trans (hz1 i), fun i => (frozen_set _ _ _ _).trans (hz2 i), ⟨.slice (some ⟨g, 0, none⟩) (l.length + 1) cap, ?_, ?_, rfl⟩, ?_, fun j hj => ?_, by simpa using hgl.1, by simpa using hgl.2⟩
    · rw [size_setCell]; exact Nat.lt_of_lt_of_le h0.lt_hb h2.size
    · rw [size_setCell]; exact Nat.lt_of_lt_of_le h0.lt_ab h2.size
    · have e2 : (l ++ [e]).length = l.length + 1 := by simp
      exact cell_set_eq (v := .slice (some ⟨g, 0, none⟩) (l.length + 1) cap) hl'
    · have e1 : (l ++ [e]).flatMap En.cells = l.flatMap En.cells ++ e.cells := by simp
      have e2 : (l ++ [e]).length = l.length + 1 := by simp
      rw [e1, e2]
      exact own_kept h1 hst (fun b hb => by simp [Value.ownBlock] at hb; subst hb; simpa using hgl.1)
    · exact (cell_set_ne (.inr (by omega))).trans ((World.cell?_of_block (a := ⟨hb, 1, none⟩) (h2.block hb h0.lt_hb ne1)).trans h0.h_at)
    · exact (cell_set_ne (.inl (Ne.symm h.ne))).trans ((World.cell?_of_block (a := ⟨ab, j, none⟩) (h2.block ab h0.lt_ab ne2)).trans (h0.c_at j hj))
  refine St_at hl' (hz1 _) (nn_some ?_)
  simp only [addr_add, Nat.add_zero, Nat.zero_add]
  refine ld_slice (cell_set_eq hl') ?_
  have ew : IntKind.wrap .i64 (((l.length + 1 : Nat) : Int) - 1) = ((l.length : Nat) : Int) := by
    have : (((l.length + 1 : Nat) : Int) - 1) = ((l.length : Nat) : Int) := by omega
    rw [this]; exact IntWalk.i64_in _ (by omega)
  rw [ew]
  have elen : (l ++ [e]).length = l.length + 1 := by simp
  have elast : el (l ++ [e]) l.length = e := el_app_eq l e
  have hext : ∀ j, j < l.length → el (l ++ [e]) j = el l j := fun j hj => el_app_lt hj
  have hinv2 : HInv (el (l ++ [e])) (l.length + 1) n (upd at_ i (l.length : Nat)) := (hinv.ext hext fun _ _ => rfl).add hi hat (by rw [elast, he])
  refine up_ok hat2 (by rw [elen]; omega) (by rw [elen]; omega) (by rw [elen]; exact ok_ex (hok.ext hext)) (by rw [elen, elast, show e.i = i from by rw [he]]; exact hinv2) fun w3 l' at' k' o7 h7 e1 e2 e3 e4 e5 e6 e7 => ⟨rfl, ?_⟩
  rw [elen] at e1 e2 e4 e5 e6 e7
  refine hK w3 (some g) l' at' (o6.trans_new o7 fun b hb => ?_) h7 ?_ ⟨e1, ?_, by rw [e1]; exact e6, fun x => ?_⟩
  · simp only [Option.toList, List.mem_cons, List.not_mem_nil, or_false] at hb
    rcases hb with hb | hb
    · exact .inl (by simp [hb])
    · rcases h3 with h3 | h3
      · rw [g3] at h3; exact .inl (by simp [h3, hb])
      · exact .inr (by omega)
  · rcases h3 with h3 | h3
    · exact .inl (by rw [← g3]; exact h3.symm)
    · exact .inr ⟨g, rfl, by omega⟩
  · rw [e1]
    rcases e5 with e5 | ⟨e5, e8⟩
    · exact dn_end e4 e5
    · exact dn_end e4 fun x h0 hx hp => by unfold par at hp; omega
  · rw [e1, e7 x, inH_add, elast, InH.ext hext, he]

theorem heapRemove_ok (h : HeapAt w hb ab ob n l at_) {i : Nat} (hi : i < n) (hat : at_ i ≠ -1) (hok : HeapOk (el l) l.length) (hinv : HInv (el l) l.length n at_) (hlen : l.length ≤ 1024)
    (hK : ∀ w' l' at', Only (hb :: ab :: ob.toList) w w' → HeapAt w' hb ab ob n l' at' → RmH l l' n at_ at' i → K (.int .i64 0) w') :
    CallsV P 224 #[.pointer (some ⟨hb, 0, none⟩), .int .i64 (i : Int)] w K := by
  refine m_heap_Heap_Remove_ok ?_
  unfold m_heap_Heap_Remove
  obtain ⟨k, hk, hak, hki⟩ := hinv.there i hi hat
  obtain ⟨m, hm⟩ : ∃ m, l.length = m + 1 := ⟨l.length - 1, by omega⟩
  have hml : m < l.length := by omega
  refine if_no (by simp) (heapMember_ok h ⟨_, rfl, if_no (by simp; omega) (nn_some ?_)⟩)
  simp only [addr_add, Nat.add_zero, Nat.zero_add]
  refine ld_slice h.h_at (ix_nat hi ?_)
  simp only [addr_add, Nat.add_zero, Nat.zero_add, Int.toNat_natCast, Nat.mul_one]
  refine ld_int (h.c_at i hi) (if_no (by simpa using hat) (nn_some ?_))
  have od : Only [] w w.drew := Only.drew w
  have hd := h.only od (by simp) (by simp) (by simp)
  simp only [addr_add, Nat.add_zero, Nat.zero_add]
  refine ld_slice hd.h_at (ix_nat hi ?_)
  simp only [addr_add, Nat.add_zero, Nat.zero_add, Int.toNat_natCast, Nat.mul_one]
  refine ld_int (hd.c_at i hi) (nn_some ?_)
  obtain ⟨g, c, rfl, q1, q2, q3, q4, q5, q6⟩ := hd.get hml
  simp only [addr_add, Nat.add_zero, Nat.zero_add]
  have ew : IntKind.wrap .i64 (((l.length : Nat) : Int) - 1) = ((m : Nat) : Int) := by
    have : (((l.length : Nat) : Int) - 1) = ((m : Nat) : Int) := by omega
    rw [this]; exact IntWalk.i64_in _ (by omega)
  refine ld_slice q1 (nn_some (ld_slice q1 ?_))
  rw [ew]
  obtain ⟨p1, p2, p3⟩ := q6 m hml
  refine ix_nat hml ?_
  simp only [addr_add, Nat.add_zero, Nat.zero_add, Int.toNat_natCast]
  refine ld_int p1 (ld_int p2 (ld_int p3 (al_intro ?_)))
  obtain ⟨e, he⟩ : ∃ e, el l m = e := ⟨_, rfl⟩
  rw [he]
  obtain ⟨W, hW⟩ : ∃ W, w.drew.alloc (.cells #[.int .i64 0, .int .u64 0, .int .i64 0] 377) = W := ⟨_, rfl⟩
  have o0 : Only [] w.drew W := by rw [← hW]; exact Only.alloc _ _
  have a0 : EnAt W w.drew.heap.size ⟨0, 0, 0⟩ := by rw [← hW]; exact en_new w.drew ⟨0, 0, 0⟩
  rw [hW]
  refine en_store (e := e) a0 (o0.mono (T := hb :: ab :: [g]) (by simp)) (Nat.le_refl _) fun w1 o1 o1' e1 => nn_some ?_
  have hsz : ∀ b, b < w.drew.heap.size → b ∉ [w.drew.heap.size] := fun b hb hc => by
    have : b = w.drew.heap.size := by simpa using hc
    omega
  have h1 : HeapAt w1 hb ab (some g) n l at_ := (hd.only o0 (by simp) (by simp) (by simp)).only o1' (hsz _ hd.lt_hb) (hsz _ hd.lt_ab) fun b hb => hsz _ (by cases hb; exact q4)
  obtain ⟨sv, g1, g2, g3⟩ := h1.row
  obtain ⟨a, c', rfl⟩ := row_slice g2
  have ha : a = some ⟨g, 0, none⟩ := by
    rcases g2.2 with ⟨h', _⟩ | ⟨g', cap', cur, h', _⟩
    · simp at h'; omega
    · simp only [Value.slice.injEq] at h'
      rw [h'.1] at g3 ⊢
      simp only [Value.ownBlock, Option.some.injEq] at g3
      rw [g3]
  subst ha
  simp only [addr_add, Nat.add_zero, Nat.zero_add]
  have hcap : l.length ≤ c' := by
    rcases g2.2 with ⟨h', _⟩ | ⟨g', cap', cur, h', _, _, hle, _⟩
    · simp at h'
    · simp only [Value.slice.injEq] at h'
      omega
  refine ld_slice g1 (cut_hi W2 (e := 377) (ti := ti377) rfl rfl (by omega) (by omega) ⟨_, _, _, rfl, nn_some ?_⟩)
  simp only [addr_add, Nat.add_zero, Nat.zero_add, Int.toNat_natCast]
  have hn1 := h1.nb_hb
  have hn2 := h1.nb_ab
  have hst : Only [hb] w1 (w1.setCell ⟨hb, 0, none⟩ (.slice (some ⟨g, 0, none⟩) m c')) := (Only.refl [hb] w1).st (.inl (by simp)) g1
  have o2 := (od.mono (T := hb :: ab :: [g]) (by simp)).trans o1
  have o3 := o2.st (v := .slice (some ⟨g, 0, none⟩) m c') (.inl (by simp)) g1
  have hlt : (l.take m).length = m := by rw [List.length_take]; omega
  have h2 : HeapAt (w1.setCell ⟨hb, 0, none⟩ (.slice (some ⟨g, 0, none⟩) m c')) hb ab (some g) n (l.take m) at_ := by
    refine ⟨h.ne, by rw [size_setCell]; exact h1.lt_hb, by rw [size_setCell]; exact h1.lt_ab, fun i => (frozen_set _ _ _ _).trans (h1.z_hb i), fun i => (frozen_set _ _ _ _).trans (h1.z_ab i), ⟨_, cell_set_eq g1, ?_, rfl⟩, (cell_set_ne (.inr (by omega))).trans h1.h_at, fun j hj => (cell_set_ne (.inl (Ne.symm h.ne))).trans (h1.c_at j hj), hn1, hn2⟩
    rw [hlt, ← flat_take En.cells_len]
    exact own_kept (own_short g2 (by omega)) hst (fun b hb => by simp [Value.ownBlock] at hb; subst hb; simpa using fun e => hn1 (by rw [e]))
  refine St_at g1 (h1.z_hb _) (nn_some ?_)
  simp only [addr_add, Nat.add_zero, Nat.zero_add]
  refine ld_slice h2.h_at (ix_nat hi ?_)
  simp only [addr_add, Nat.add_zero, Nat.zero_add, Int.toNat_natCast, Nat.mul_one]
  refine St_at (h2.c_at i hi) (h2.z_ab _) ?_
  have h3 := h2.seta hi (-1)
  have o4 := o3.st (v := .int .i64 (-1)) (.inl (by simp)) (h2.c_at i hi)
  have e4 : EnAt _ w.drew.heap.size e := (e1.only hst (by have := hd.lt_hb; simp only [List.mem_singleton]; omega)).only ((Only.refl [ab] _).st (v := .int .i64 (-1)) (.inl (by simp)) (h2.c_at i hi)) (by have := hd.lt_ab; simp only [List.mem_singleton]; omega)
  have helt : ∀ j, j < m → el (l.take m) j = el l j := fun j hj => el_take hj
  rw [hm] at hok hinv hk
  rw [hak]
  by_cases hkm : k = m
  · refine if_yes (by simp; omega) (hK _ _ _ o4 h3 ⟨by omega, ?_, ?_, fun x => ?_⟩)
    · rw [hlt]; exact hok.less.ext helt
    · rw [hlt]
      have := hinv.pop
      rw [← hkm, hki] at this
      rw [← hkm] at helt ⊢
      exact this.ext helt fun _ _ => rfl
    · rw [hlt, InH.ext helt, inH_pop hinv, hm, ← hkm, hki]
  · refine if_no (by simp; omega) ?_
    have hkm' : k < m := by omega
    refine ld_int e4.c0 (ld_int e4.c1 (ld_int e4.c2 ?_))
    have hei : e.i < n := by rw [← he]; exact hinv.lt m (by omega)
    have hki2 : k < (l.take m).length := by omega
    refine lay_ok h3 hki2 hei fun w5 o5 h5 => ⟨rfl, ?_⟩
    have hV : ∀ j, j < m → el ((l.take m).set k e) j = sw (el l) k m j := fun j hj => by
      rw [el_set hki2]
      unfold upd sw
      by_cases e1 : j = k
      · simp [e1, he]
      · simp only [e1, if_false, if_neg (show ¬ j = m by omega)]; exact helt j hj
    have hlen2 : ((l.take m).set k e).length = m := by rw [List.length_set]; exact hlt
    have hne : e.i ≠ i := fun hc => by
      rw [← he, ← hki] at hc
      have := hinv.inj (show m < m + 1 by omega) hk hc
      omega
    have hsw := (hinv.swap hk (show m < m + 1 by omega)).pop
    rw [sw_b, he, hki] at hsw
    have hA : upd (upd (upd at_ e.i (k : Int)) i (m : Int)) i (-1) = upd (upd at_ i (-1)) e.i (k : Int) := by
      rw [upd_upd, upd_comm _ hne]
    have hinv2 : HInv (el ((l.take m).set k e)) m n (upd (upd at_ i (-1)) e.i (k : Int)) := by
      refine hsw.ext hV fun j _ => ?_
      rw [← hA]
    have hek : el ((l.take m).set k e) k = e := by rw [el_set hki2, upd_same]
    refine up_ok h5 (by omega) (by omega) ?_ (by rw [hlen2, hek, upd_upd]; exact hinv2) fun w6 l3 at3 k' o6 h6 u1 u2 u3 u4 u5 u6 u7 => ⟨rfl, nn_some ?_⟩
    · rw [hlen2, el_set hki2]
      exact ok_put (hok.less.ext helt) e
    · rw [hlen2] at u1 u2 u4 u6 u7
      rw [hek] at u3
      have o56 := o5.trans o6
      have hnb : w.drew.heap.size ∉ ab :: (some g).toList := by
        have := hd.lt_ab
        simp only [Option.toList, List.mem_cons, List.not_mem_nil, or_false, not_or]
        omega
      have e6 := (e4.only o56 hnb).only (Only.drew (S := []) _) (by simp)
      have h6d := h6.only (Only.drew (S := []) _) (by simp) (by simp) (by simp)
      simp only [addr_add, Nat.add_zero, Nat.zero_add]
      refine ld_slice h6d.h_at (ld_int e6.c2 (ix_nat hei ?_))
      simp only [addr_add, Nat.add_zero, Nat.zero_add, Int.toNat_natCast, Nat.mul_one]
      have hat3 : at3 e.i = k' := by rw [← u3]; exact u6.here k' u2
      refine ld_int (h6d.c_at e.i hei) ?_
      rw [hat3]
      refine down_ok h6d (by omega) (by omega) (by rw [u1]; exact u4) (by rw [u1, u3, ← hat3, upd_self]; exact u6) fun w7 l4 at4 o7 h7 v1 v2 v3 v4 => ⟨rfl, hK w7 l4 at4 ?_ h7 ⟨by omega, by rw [v1]; exact v2, by rw [v1]; exact v3, fun x => ?_⟩⟩
      · exact (((o4.trans (o56.mono (by simp))).trans (Only.drew _)).trans (o7.mono (by simp)))
      · rw [v1, v4 x, u1, u7 x, InH.ext hV, inH_pop (hinv.swap hk (show m < m + 1 by omega)), inH_swap hk (by omega), sw_b, hki, hm]

end Go.M

/- What the functions of the rows do: Remove. -/
set_option linter.all false
set_option linter.constructorNameAsVariable false
set_option maxRecDepth 100000
namespace Go.M
open Go Go.Eng Go.RowKit

variable {w : World} {pb rb kb : Nat} {s : RowsM} {K : Value → World → Prop}

theorem rem63_ok (hs : RowsAt w pb rb kb s) {t i : Nat} (ht : t < s.nr) (hi : i < s.nk) (hc : 0 ≤ s.count t ∧ s.count t ≤ 1000000) {w0 : World} (ho : Only [pb, rb, kb] w0 w) {out : Nat × List Value → World → Prop}
    (hK : ∀ w', Only [pb, rb, kb] w0 w' → RowsAt w' pb rb kb { s with count := upd s.count t (s.count t - 1), row := upd s.row i (-1), prev := upd s.prev i (-1), next := upd s.next i (-1) } → out (0, [.int .i64 0]) w') :
    m_deque_Rows_Remove_c63 [.pointer (some ⟨pb, 0, none⟩), .int .i64 (i : Int), .pointer (some ⟨rb, t * 3, none⟩)] w out := by
  unfold m_deque_Rows_Remove_c63
  simp only [addr_add, Nat.add_zero, Nat.zero_add]
  refine ld_int (hs.c_count t ht) ?_
  rw [IntWalk.i64_in _ (by omega)]
  have s1 := hs.set_count ht (s.count t - 1)
  have o1 := ho.st (v := .int .i64 (s.count t - 1)) (.inl (by simp)) (hs.c_count t ht)
  refine St_at (hs.c_count t ht) (hs.z_rb _) (nn_some ?_)
  simp only [addr_add, Nat.add_zero, Nat.zero_add]
  refine ld_slice s1.h_links (ix_nat hi ?_)
  simp only [addr_add, Nat.add_zero, Nat.zero_add, Int.toNat_natCast]
  have s2 := s1.set_row hi (-1)
  have o2 := o1.st (v := .int .i64 (-1)) (.inl (by simp)) (s1.c_row i hi)
  refine St_at (s1.c_row i hi) (s1.z_kb _) ?_
  have s3 := s2.set_prev hi (-1)
  have o3 := o2.st (v := .int .i64 (-1)) (.inl (by simp)) (s2.c_prev i hi)
  refine St_at (s2.c_prev i hi) (s2.z_kb _) ?_
  have s4 := s3.set_next hi (-1)
  have o4 := o3.st (v := .int .i64 (-1)) (.inl (by simp)) (s3.c_next i hi)
  exact St_at (s3.c_next i hi) (s3.z_kb _) (hK _ o4 s4)

def rem31M (s : RowsM) (t : Nat) (pv nx : Int) : RowsM := if nx = -1 then { s with back := upd s.back t pv } else { s with prev := upd s.prev nx.toNat pv }

theorem rem31_ok (hs : RowsAt w pb rb kb s) {t i lb : Nat} (ht : t < s.nr) (hi : i < s.nk) (hc : 0 ≤ s.count t ∧ s.count t ≤ 1000000) {pv nx : Int} (hl1 : w.cell? ⟨lb, 1, none⟩ = some (.int .i64 pv)) (hl2 : w.cell? ⟨lb, 2, none⟩ = some (.int .i64 nx))
    (hn : nx = -1 ∨ ∃ j : Nat, nx = j ∧ j < s.nk) {w0 : World} (ho : Only [pb, rb, kb] w0 w) {out : Nat × List Value → World → Prop}
    (hK : ∀ w', Only [pb, rb, kb] w0 w' → RowsAt w' pb rb kb { rem31M s t pv nx with count := upd s.count t (s.count t - 1), row := upd s.row i (-1), prev := upd (rem31M s t pv nx).prev i (-1), next := upd s.next i (-1) } → out (0, [.int .i64 0]) w') :
    m_deque_Rows_Remove_c31 [.pointer (some ⟨pb, 0, none⟩), .int .i64 (i : Int), .pointer (some ⟨lb, 0, none⟩), .pointer (some ⟨rb, t * 3, none⟩)] w out := by
  unfold m_deque_Rows_Remove_c31
  simp only [addr_add, Nat.add_zero, Nat.zero_add]
  refine ld_int hl2 ?_
  rcases hn with rfl | ⟨j, rfl, hj⟩
  · refine if_yes (by simp) (ld_int hl1 ?_)
    have e : rem31M s t pv (-1) = { s with back := upd s.back t pv } := rfl
    rw [e] at hK
    have s1 := hs.set_back ht pv
    have o1 := ho.st (v := .int .i64 pv) (.inl (by simp)) (hs.c_back t ht)
    refine St_at (hs.c_back t ht) (hs.z_rb _) (rem63_ok s1 ht hi hc o1 fun w' o2 h2 => ?_)
    simp only [m_deque_Rows_Remove_c63_o]
    exact hK w' o2 h2
  · refine if_no (by simp) (nn_some ?_)
    have e : rem31M s t pv (j : Int) = { s with prev := upd s.prev j pv } := by
      unfold rem31M; rw [if_neg (by omega)]; simp
    rw [e] at hK
    have sd := hs.drew
    simp only [addr_add, Nat.add_zero, Nat.zero_add]
    refine ld_slice sd.h_links (ld_int hl2 (ld_int hl1 (ix_nat hj ?_)))
    simp only [addr_add, Nat.add_zero, Nat.zero_add, Int.toNat_natCast]
    have s1 := sd.set_prev hj pv
    have o1 := (ho.trans (Only.drew _)).st (v := .int .i64 pv) (.inl (by simp)) (sd.c_prev j hj)
    refine St_at (sd.c_prev j hj) (sd.z_kb _) (rem63_ok s1 ht hi hc o1 fun w' o2 h2 => ?_)
    simp only [m_deque_Rows_Remove_c63_o]
    exact hK w' o2 h2

theorem rem_eq {i t : Nat} (hr : s.row i = t) :
    s.remove i = { rem31M (if s.prev i = -1 then { s with front := upd s.front t (s.next i) } else { s with next := upd s.next (s.prev i).toNat (s.next i) }) t (s.prev i) (s.next i) with
      count := upd s.count t (s.count t - 1), row := upd s.row i (-1), prev := upd (rem31M (if s.prev i = -1 then { s with front := upd s.front t (s.next i) } else { s with next := upd s.next (s.prev i).toNat (s.next i) }) t (s.prev i) (s.next i)).prev i (-1),
      next := upd (if s.prev i = -1 then s.next else upd s.next (s.prev i).toNat (s.next i)) i (-1) } := by
  unfold RowsM.remove rem31M
  rw [hr]
  by_cases h1 : s.prev i = -1 <;> by_cases h2 : s.next i = -1 <;> simp [h1, h2]

theorem rowsRemove_ok (hs : RowsAt w pb rb kb s) {i t : Nat} (hi : i < s.nk) (ht : t < s.nr) (hr : s.row i = t) (hp : s.prev i = -1 ∨ ∃ j : Nat, s.prev i = j ∧ j < s.nk) (hn : s.next i = -1 ∨ ∃ j : Nat, s.next i = j ∧ j < s.nk) (hc : 0 ≤ s.count t ∧ s.count t ≤ 1000000)
    (hK : ∀ w', Only [pb, rb, kb] w w' → RowsAt w' pb rb kb (s.remove i) → K (.int .i64 0) w') : CallsV P 223 #[.pointer (some ⟨pb, 0, none⟩), .int .i64 (i : Int)] w K := by
  refine m_deque_Rows_Remove_ok ?_
  unfold m_deque_Rows_Remove
  refine if_no (by simp) (member_ok hs ⟨_, rfl, if_no (by simp; omega) (nn_some ?_)⟩)
  simp only [addr_add, Nat.add_zero, Nat.zero_add]
  refine ld_slice hs.h_links (ix_nat hi ?_)
  simp only [addr_add, Nat.add_zero, Nat.zero_add, Int.toNat_natCast]
  refine ld_int (hs.c_row i hi) (if_no (by simp [hr]) (nn_some ?_))
  simp only [addr_add, Nat.add_zero, Nat.zero_add]
  refine ld_slice hs.h_links (ix_nat hi ?_)
  simp only [addr_add, Nat.add_zero, Nat.zero_add, Int.toNat_natCast]
  refine ld_int (hs.c_row i hi) (ld_int (hs.c_prev i hi) (ld_int (hs.c_next i hi) (al_intro ?_)))
  rw [hr]
  obtain ⟨W, hW⟩ : ∃ W, w.alloc (.cells #[.int .i64 0, .int .i64 0, .int .i64 0] 318) = W := ⟨_, rfl⟩
  have o0 : Only [] w W := by rw [← hW]; exact Only.alloc _ _
  have c0 : W.cell? ⟨w.heap.size, 0, none⟩ = some (.int .i64 0) := by rw [← hW]; simp [cell_new]
  have c1 : W.cell? ⟨w.heap.size, 1, none⟩ = some (.int .i64 0) := by rw [← hW]; simp [cell_new]
  have c2 : W.cell? ⟨w.heap.size, 2, none⟩ = some (.int .i64 0) := by rw [← hW]; simp [cell_new]
  have z0 : ∀ i, W.frozen? ⟨w.heap.size, i, none⟩ = false := by intro i; rw [← hW]; simp [frozen_new]
  rw [hW]
  have nn (i j : Nat) (v : Value) (w' : World) (h : i ≠ j) : (w'.setCell ⟨w.heap.size, i, none⟩ v).cell? ⟨w.heap.size, j, none⟩ = w'.cell? ⟨w.heap.size, j, none⟩ := cell_set_ne (.inr (Ne.symm h))
  refine St_at c0 (z0 _) ?_
  have d1 := (nn 0 1 (.int .i64 (t : Int)) W (by omega)).trans c1
  refine St_at d1 ((frozen_set _ _ _ _).trans (z0 _)) ?_
  have d2 := (nn 1 2 (.int .i64 (s.prev i)) _ (by omega)).trans ((nn 0 2 (.int .i64 (t : Int)) W (by omega)).trans c2)
  refine St_at d2 ((frozen_set _ _ _ _).trans ((frozen_set _ _ _ _).trans (z0 _))) (nn_some ?_)
  obtain ⟨w1, hw1⟩ : ∃ w1, World.drew (((W.setCell ⟨w.heap.size, 0, none⟩ (.int .i64 (t : Int))).setCell ⟨w.heap.size, 1, none⟩ (.int .i64 (s.prev i))).setCell ⟨w.heap.size, 2, none⟩ (.int .i64 (s.next i))) = w1 := ⟨_, rfl⟩
  have q0 : w1.cell? ⟨w.heap.size, 0, none⟩ = some (.int .i64 (t : Int)) := by
    rw [← hw1, cell_drew, nn _ _ _ _ (by omega), nn _ _ _ _ (by omega)]; exact cell_set_eq c0
  have q1 : w1.cell? ⟨w.heap.size, 1, none⟩ = some (.int .i64 (s.prev i)) := by
    rw [← hw1, cell_drew, nn _ _ _ _ (by omega)]; exact cell_set_eq d1
  have q2 : w1.cell? ⟨w.heap.size, 2, none⟩ = some (.int .i64 (s.next i)) := by
    rw [← hw1, cell_drew]; exact cell_set_eq d2
  have o1 : Only [] w w1 := by
    rw [← hw1]
    exact (((o0.st (.inr (Nat.le_refl _)) c0).st (.inr (Nat.le_refl _)) d1).st (.inr (Nat.le_refl _)) d2).drawn
  have h1 := hs.only o1 (by simp) (by simp) (by simp)
  have ltp := hs.lt_pb
  have ltr := hs.lt_rb
  have ltk := hs.lt_kb
  rw [hw1]
  simp only [addr_add, Nat.add_zero, Nat.zero_add]
  refine ld_slice h1.h_rows (ld_int q0 (ix_nat ht ?_))
  simp only [addr_add, Nat.add_zero, Nat.zero_add, Int.toNat_natCast]
  refine ld_int q1 ?_
  have o1' : Only [pb, rb, kb] w w1 := o1.mono (by simp)
  have hnb : w.heap.size ∉ [rb] := by simp only [List.mem_singleton]; omega
  have hnk : w.heap.size ∉ [kb] := by simp only [List.mem_singleton]; omega
  rw [rem_eq hr] at hK
  rcases hp with hp | ⟨j, hp, hj⟩
  · refine if_yes (by simp [hp]) (ld_int q2 ?_)
    simp only [if_pos hp] at hK
    have s1 := h1.set_front ht (s.next i)
    have o2 := o1'.st (v := .int .i64 (s.next i)) (.inl (by simp)) (h1.c_front t ht)
    have o2' : Only [rb] w1 _ := (Only.refl [rb] w1).st (v := .int .i64 (s.next i)) (.inl (by simp)) (h1.c_front t ht)
    refine St_at (h1.c_front t ht) (h1.z_rb _) (rem31_ok s1 ht hi hc (o2'.cell q1 hnb) (o2'.cell q2 hnb) hn o2 fun w' o3 h3 => ?_)
    simp only [m_deque_Rows_Remove_c31_o]
    exact hK w' o3 h3
  · have hne : ¬ s.prev i = -1 := by omega
    simp only [if_neg hne] at hK
    refine if_no (by simp [hne]) (nn_some ?_)
    have h1d := h1.drew
    simp only [addr_add, Nat.add_zero, Nat.zero_add]
    have od : Only [] w1 w1.drew := Only.drew w1
    have q1d := od.cell q1 (by simp)
    have q2d := od.cell q2 (by simp)
    refine ld_slice h1d.h_links (ld_int q1d (ld_int q2d ?_))
    have ej : (s.prev i).toNat = j := by omega
    rw [ej] at hK
    rw [hp]
    refine ix_nat hj ?_
    simp only [addr_add, Nat.add_zero, Nat.zero_add, Int.toNat_natCast]
    have s1 := h1d.set_next hj (s.next i)
    have o2 := (o1'.trans (Only.drew _)).st (v := .int .i64 (s.next i)) (.inl (by simp)) (h1d.c_next j hj)
    have o2' : Only [kb] w1.drew _ := (Only.refl [kb] w1.drew).st (v := .int .i64 (s.next i)) (.inl (by simp)) (h1d.c_next j hj)
    refine St_at (h1d.c_next j hj) (h1d.z_kb _) (rem31_ok s1 ht hi hc (o2'.cell q1d hnk) (o2'.cell q2d hnk) hn o2 fun w' o3 h3 => ?_)
    simp only [m_deque_Rows_Remove_c31_o]
    exact hK w' o3 h3

end Go.M

/- The first tier that has one. -/
set_option linter.all false
set_option linter.constructorNameAsVariable false
namespace Go.M
open Go Go.Eng Go.RowKit

variable {w : World} {K : Value → World → Prop} {d : QIds} {q : QueueM}

theorem queueFirst_none (h : QueueAt w d q) (h0 : q.slab.len = 0) (hK : K (.tuple #[.int .i64 0, .bool false]) w) : CallsV P 134 #[.pointer (some ⟨d.qb, 0, none⟩)] w K := by
  refine m_tierq_Queue_First_ok ?_
  unfold m_tierq_Queue_First
  exact queueLen_ok h ⟨_, rfl, if_yes (by simpa using h0) hK⟩

theorem queueFirst_some (h : QueueAt w d q) (h0 : q.slab.len ≠ 0) {t : Nat} (ht : t < q.rows.nr) (hn : q.rows.nr ≤ 1000) (h1 : q.rows.count t ≠ 0) (h2 : ∀ j, j < t → q.rows.count j = 0) (hK : K (.tuple #[.int .i64 (t : Int), .bool true]) w) : CallsV P 134 #[.pointer (some ⟨d.qb, 0, none⟩)] w K := by
  refine m_tierq_Queue_First_ok ?_
  unfold m_tierq_Queue_First
  refine queueLen_ok h ⟨_, rfl, if_no (by simpa using h0) ?_⟩
  refine loop_count t (fun _ w' => w' = w) (fun i => [.pointer (some ⟨d.qb, 0, none⟩), .int .i64 (i : Int)]) ?_ ?_ rfl
  · rintro i w' next hi rfl hnext
    unfold m_tierq_Queue_First_l60
    simp only
    refine queueCount_ok h ⟨_, rfl, ?_⟩
    have e : (if 0 ≤ (i : Int) ∧ (i : Int) < (q.rows.nr : Int) then q.rows.count (i : Int).toNat else 0) = q.rows.count i := by rw [if_pos ⟨by omega, by omega⟩]; rfl
    rw [e]
    refine if_yes (by simpa using h2 i hi) ?_
    rw [IntWalk.i64_in _ (by omega)]
    exact hnext _ rfl
  · rintro w' next rfl
    unfold m_tierq_Queue_First_l60
    simp only
    refine queueCount_ok h ⟨_, rfl, ?_⟩
    have e : (if 0 ≤ (t : Int) ∧ (t : Int) < (q.rows.nr : Int) then q.rows.count (t : Int).toNat else 0) = q.rows.count t := by rw [if_pos ⟨by omega, by omega⟩]; rfl
    rw [e]
    refine if_no (by simpa using h1) ?_
    simpa [m_tierq_Queue_First_l60_o] using hK

end Go.M

/- What the functions of the queue do: put, taken. -/
set_option linter.all false
set_option linter.constructorNameAsVariable false
set_option maxRecDepth 100000
namespace Go.M
open Go Go.Eng Go.RowKit

variable {w w' : World} {K : Value → World → Prop} {d : QIds} {q : QueueM}

theorem QIds.apart (d : QIds) (h : d.list.Nodup) : d.fixed.Nodup ∧ ∀ g, d.ho = some g → g ∉ d.fixed := by
  unfold QIds.list at h
  obtain ⟨_, h2, h3⟩ := List.nodup_append.1 h
  exact ⟨h2, fun g hg hc => h3 g (by rw [hg]; simp) g hc rfl⟩

/-- the blocks of a queue differ -/
structure QNe (d : QIds) : Prop where
  qb_hd : d.qb ≠ d.hd
  qb_sp : d.qb ≠ d.sp
  qb_sc : d.qb ≠ d.sc
  qb_rp : d.qb ≠ d.rp
  qb_rr : d.qb ≠ d.rr
  qb_rk : d.qb ≠ d.rk
  qb_hp : d.qb ≠ d.hp
  qb_ha : d.qb ≠ d.ha
  hd_qb : d.hd ≠ d.qb
  hd_sp : d.hd ≠ d.sp
  hd_sc : d.hd ≠ d.sc
  hd_rp : d.hd ≠ d.rp
  hd_rr : d.hd ≠ d.rr
  hd_rk : d.hd ≠ d.rk
  hd_hp : d.hd ≠ d.hp
  hd_ha : d.hd ≠ d.ha
  sp_qb : d.sp ≠ d.qb
  sp_hd : d.sp ≠ d.hd
  sp_sc : d.sp ≠ d.sc
  sp_rp : d.sp ≠ d.rp
  sp_rr : d.sp ≠ d.rr
  sp_rk : d.sp ≠ d.rk
  sp_hp : d.sp ≠ d.hp
  sp_ha : d.sp ≠ d.ha
  sc_qb : d.sc ≠ d.qb
  sc_hd : d.sc ≠ d.hd
  sc_sp : d.sc ≠ d.sp
  sc_rp : d.sc ≠ d.rp
  sc_rr : d.sc ≠ d.rr
  sc_rk : d.sc ≠ d.rk
  sc_hp : d.sc ≠ d.hp
  sc_ha : d.sc ≠ d.ha
  rp_qb : d.rp ≠ d.qb
  rp_hd : d.rp ≠ d.hd
  rp_sp : d.rp ≠ d.sp
  rp_sc : d.rp ≠ d.sc
  rp_rr : d.rp ≠ d.rr
  rp_rk : d.rp ≠ d.rk
  rp_hp : d.rp ≠ d.hp
  rp_ha : d.rp ≠ d.ha
  rr_qb : d.rr ≠ d.qb
  rr_hd : d.rr ≠ d.hd
  rr_sp : d.rr ≠ d.sp
  rr_sc : d.rr ≠ d.sc
  rr_rp : d.rr ≠ d.rp
  rr_rk : d.rr ≠ d.rk
  rr_hp : d.rr ≠ d.hp
  rr_ha : d.rr ≠ d.ha
  rk_qb : d.rk ≠ d.qb
  rk_hd : d.rk ≠ d.hd
  rk_sp : d.rk ≠ d.sp
  rk_sc : d.rk ≠ d.sc
  rk_rp : d.rk ≠ d.rp
  rk_rr : d.rk ≠ d.rr
  rk_hp : d.rk ≠ d.hp
  rk_ha : d.rk ≠ d.ha
  hp_qb : d.hp ≠ d.qb
  hp_hd : d.hp ≠ d.hd
  hp_sp : d.hp ≠ d.sp
  hp_sc : d.hp ≠ d.sc
  hp_rp : d.hp ≠ d.rp
  hp_rr : d.hp ≠ d.rr
  hp_rk : d.hp ≠ d.rk
  hp_ha : d.hp ≠ d.ha
  ha_qb : d.ha ≠ d.qb
  ha_hd : d.ha ≠ d.hd
  ha_sp : d.ha ≠ d.sp
  ha_sc : d.ha ≠ d.sc
  ha_rp : d.ha ≠ d.rp
  ha_rr : d.ha ≠ d.rr
  ha_rk : d.ha ≠ d.rk
  ha_hp : d.ha ≠ d.hp
  ho_qb : ∀ g, d.ho = some g → g ≠ d.qb
  qb_ho : d.ho ≠ some d.qb
  ho_hd : ∀ g, d.ho = some g → g ≠ d.hd
  hd_ho : d.ho ≠ some d.hd
  ho_sp : ∀ g, d.ho = some g → g ≠ d.sp
  sp_ho : d.ho ≠ some d.sp
  ho_sc : ∀ g, d.ho = some g → g ≠ d.sc
  sc_ho : d.ho ≠ some d.sc
  ho_rp : ∀ g, d.ho = some g → g ≠ d.rp
  rp_ho : d.ho ≠ some d.rp
  ho_rr : ∀ g, d.ho = some g → g ≠ d.rr
  rr_ho : d.ho ≠ some d.rr
  ho_rk : ∀ g, d.ho = some g → g ≠ d.rk
  rk_ho : d.ho ≠ some d.rk
  ho_hp : ∀ g, d.ho = some g → g ≠ d.hp
  hp_ho : d.ho ≠ some d.hp
  ho_ha : ∀ g, d.ho = some g → g ≠ d.ha
  ha_ho : d.ho ≠ some d.ha

theorem QIds.ne (d : QIds) (h : d.list.Nodup) : QNe d := by
  obtain ⟨nf, nh⟩ := d.apart h
  simp only [QIds.fixed, List.nodup_cons, List.mem_cons, List.not_mem_nil, or_false, not_or, List.nodup_nil, and_true, not_false_eq_true] at nf nh
  obtain ⟨⟨n_qb_hd, n_qb_sp, n_qb_sc, n_qb_rp, n_qb_rr, n_qb_rk, n_qb_hp, n_qb_ha⟩, ⟨n_hd_sp, n_hd_sc, n_hd_rp, n_hd_rr, n_hd_rk, n_hd_hp, n_hd_ha⟩, ⟨n_sp_sc, n_sp_rp, n_sp_rr, n_sp_rk, n_sp_hp, n_sp_ha⟩, ⟨n_sc_rp, n_sc_rr, n_sc_rk, n_sc_hp, n_sc_ha⟩, ⟨n_rp_rr, n_rp_rk, n_rp_hp, n_rp_ha⟩, ⟨n_rr_rk, n_rr_hp, n_rr_ha⟩, ⟨n_rk_hp, n_rk_ha⟩, n_hp_ha⟩ := nf
  exact ⟨n_qb_hd, n_qb_sp, n_qb_sc, n_qb_rp, n_qb_rr, n_qb_rk, n_qb_hp, n_qb_ha, Ne.symm n_qb_hd, n_hd_sp, n_hd_sc, n_hd_rp, n_hd_rr, n_hd_rk, n_hd_hp, n_hd_ha, Ne.symm n_qb_sp, Ne.symm n_hd_sp, n_sp_sc, n_sp_rp, n_sp_rr, n_sp_rk, n_sp_hp, n_sp_ha, Ne.symm n_qb_sc, Ne.symm n_hd_sc, Ne.symm n_sp_sc, n_sc_rp, n_sc_rr, n_sc_rk, n_sc_hp, n_sc_ha, Ne.symm n_qb_rp, Ne.symm n_hd_rp, Ne.symm n_sp_rp, Ne.symm n_sc_rp, n_rp_rr, n_rp_rk, n_rp_hp, n_rp_ha, Ne.symm n_qb_rr, Ne.symm n_hd_rr, Ne.symm n_sp_rr, Ne.symm n_sc_rr, Ne.symm n_rp_rr, n_rr_rk, n_rr_hp, n_rr_ha, Ne.symm n_qb_rk, Ne.symm n_hd_rk, Ne.symm n_sp_rk, Ne.symm n_sc_rk, Ne.symm n_rp_rk, Ne.symm n_rr_rk, n_rk_hp, n_rk_ha, Ne.symm n_qb_hp, Ne.symm n_hd_hp, Ne.symm n_sp_hp, Ne.symm n_sc_hp, Ne.symm n_rp_hp, Ne.symm n_rr_hp, Ne.symm n_rk_hp, n_hp_ha, Ne.symm n_qb_ha, Ne.symm n_hd_ha, Ne.symm n_sp_ha, Ne.symm n_sc_ha, Ne.symm n_rp_ha, Ne.symm n_rr_ha, Ne.symm n_rk_ha, Ne.symm n_hp_ha, fun g hg => (nh g hg).1, fun hc => (nh _ hc).1 rfl, fun g hg => (nh g hg).2.1, fun hc => (nh _ hc).2.1 rfl, fun g hg => (nh g hg).2.2.1, fun hc => (nh _ hc).2.2.1 rfl, fun g hg => (nh g hg).2.2.2.1, fun hc => (nh _ hc).2.2.2.1 rfl, fun g hg => (nh g hg).2.2.2.2.1, fun hc => (nh _ hc).2.2.2.2.1 rfl, fun g hg => (nh g hg).2.2.2.2.2.1, fun hc => (nh _ hc).2.2.2.2.2.1 rfl, fun g hg => (nh g hg).2.2.2.2.2.2.1, fun hc => (nh _ hc).2.2.2.2.2.2.1 rfl, fun g hg => (nh g hg).2.2.2.2.2.2.2.1, fun hc => (nh _ hc).2.2.2.2.2.2.2.1 rfl, fun g hg => (nh g hg).2.2.2.2.2.2.2.2, fun hc => (nh _ hc).2.2.2.2.2.2.2.2 rfl⟩

theorem QueueAt.slabTo (h : QueueAt w d q) (ho : Only [d.sp, d.sc] w w') {s' : SlabM} (hs : SlabAt w' d.sp d.sc s') (hn' : s'.n = q.n) : QueueAt w' d { q with slab := s' } := by
  have hn := d.ne h.nodup
  have m : ∀ b, b ≠ d.sp → b ≠ d.sc → b ∉ [d.sp, d.sc] := fun b h1 h2 => by simp [h1, h2]
  exact ⟨ho.cell h.q0 (m _ hn.qb_sp hn.qb_sc), ho.cell h.q1 (m _ hn.qb_sp hn.qb_sc), ho.cell h.q2 (m _ hn.qb_sp hn.qb_sc), ho.cell h.q3 (m _ hn.qb_sp hn.qb_sc), ho.cell h.q4 (m _ hn.qb_sp hn.qb_sc),
    fun i => (ho.frozen (cell_lt h.q0) (m _ hn.qb_sp hn.qb_sc)).trans (h.z_qb i), fun i => (ho.frozen h.lt_hd (m _ hn.hd_sp hn.hd_sc)).trans (h.z_hd i), Nat.lt_of_lt_of_le h.lt_hd ho.size, fun i hi => ho.cell (h.c_hd i hi) (m _ hn.hd_sp hn.hd_sc),
    hs, h.rows.only ho (m _ hn.rp_sp hn.rp_sc) (m _ hn.rr_sp hn.rr_sc) (m _ hn.rk_sp hn.rk_sc), h.heap.only ho (m _ hn.hp_sp hn.hp_sc) (m _ hn.ha_sp hn.ha_sc) (fun b hb => m b (hn.ho_sp b hb) (hn.ho_sc b hb)), h.nodup, hn', h.n_rows, h.n_tiers⟩

theorem QueueAt.rowsTo (h : QueueAt w d q) (ho : Only [d.rp, d.rr, d.rk] w w') {s' : RowsM} (hs : RowsAt w' d.rp d.rr d.rk s') (hn' : s'.nk = q.rows.nk) (hr : s'.nr = q.rows.nr) : QueueAt w' d { q with rows := s' } := by
  have hn := d.ne h.nodup
  have m : ∀ b, b ≠ d.rp → b ≠ d.rr → b ≠ d.rk → b ∉ [d.rp, d.rr, d.rk] := fun b h1 h2 h3 => by simp [h1, h2, h3]
  exact ⟨ho.cell h.q0 (m _ hn.qb_rp hn.qb_rr hn.qb_rk), ho.cell h.q1 (m _ hn.qb_rp hn.qb_rr hn.qb_rk), ho.cell h.q2 (m _ hn.qb_rp hn.qb_rr hn.qb_rk), ho.cell h.q3 (m _ hn.qb_rp hn.qb_rr hn.qb_rk), ho.cell h.q4 (m _ hn.qb_rp hn.qb_rr hn.qb_rk),
    fun i => (ho.frozen (cell_lt h.q0) (m _ hn.qb_rp hn.qb_rr hn.qb_rk)).trans (h.z_qb i), fun i => (ho.frozen h.lt_hd (m _ hn.hd_rp hn.hd_rr hn.hd_rk)).trans (h.z_hd i), Nat.lt_of_lt_of_le h.lt_hd ho.size, fun i hi => ho.cell (h.c_hd i hi) (m _ hn.hd_rp hn.hd_rr hn.hd_rk),
    h.slab.only ho (m _ hn.sp_rp hn.sp_rr hn.sp_rk) (m _ hn.sc_rp hn.sc_rr hn.sc_rk), hs, h.heap.only ho (m _ hn.hp_rp hn.hp_rr hn.hp_rk) (m _ hn.ha_rp hn.ha_rr hn.ha_rk) (fun b hb => m b (hn.ho_rp b hb) (hn.ho_rr b hb) (hn.ho_rk b hb)), h.nodup, h.n_slab, hn'.trans h.n_rows, by rw [hr]; exact h.n_tiers⟩

theorem QueueAt.ltAll (h : QueueAt w d q) : ∀ b ∈ d.list, b < w.heap.size := by
  intro b hb
  simp only [QIds.list, QIds.fixed, List.mem_append, List.mem_cons, List.not_mem_nil, or_false] at hb
  rcases hb with hb | rfl | rfl | rfl | rfl | rfl | rfl | rfl | rfl | rfl
  · have hg : d.ho = some b := by simpa using hb
    obtain ⟨sv, g1, g2, g3⟩ := h.heap.row
    exact (g2.lt b (by rw [g3, hg])).2
  · exact cell_lt h.q0
  · exact h.lt_hd
  · exact h.slab.lt_pb
  · exact h.slab.lt_cb
  · exact h.rows.lt_pb
  · exact h.rows.lt_rb
  · exact h.rows.lt_kb
  · exact h.heap.lt_hb
  · exact h.heap.lt_ab

theorem QueueAt.heapTo (h : QueueAt w d q) (ho : Only (d.hp :: d.ha :: d.ho.toList) w w') {ob' : Option Nat} {l' : List En} {at' : Nat → Int} (hs : HeapAt w' d.hp d.ha ob' q.n l' at') (hob : ob' = d.ho ∨ ∃ g, ob' = some g ∧ w.heap.size ≤ g) : QueueAt w' { d with ho := ob' } { q with l := l', at_ := at' } := by
  have hn := d.ne h.nodup
  have m : ∀ b, b ≠ d.hp → b ≠ d.ha → d.ho ≠ some b → b ∉ d.hp :: d.ha :: d.ho.toList := fun b h1 h2 h3 => by simp [h1, h2, h3]
  refine ⟨ho.cell h.q0 (m _ hn.qb_hp hn.qb_ha hn.qb_ho), ho.cell h.q1 (m _ hn.qb_hp hn.qb_ha hn.qb_ho), ho.cell h.q2 (m _ hn.qb_hp hn.qb_ha hn.qb_ho), ho.cell h.q3 (m _ hn.qb_hp hn.qb_ha hn.qb_ho), ho.cell h.q4 (m _ hn.qb_hp hn.qb_ha hn.qb_ho),
    fun i => (ho.frozen (cell_lt h.q0) (m _ hn.qb_hp hn.qb_ha hn.qb_ho)).trans (h.z_qb i), fun i => (ho.frozen h.lt_hd (m _ hn.hd_hp hn.hd_ha hn.hd_ho)).trans (h.z_hd i), Nat.lt_of_lt_of_le h.lt_hd ho.size, fun i hi => ho.cell (h.c_hd i hi) (m _ hn.hd_hp hn.hd_ha hn.hd_ho),
    h.slab.only ho (m _ hn.sp_hp hn.sp_ha hn.sp_ho) (m _ hn.sc_hp hn.sc_ha hn.sc_ho), h.rows.only ho (m _ hn.rp_hp hn.rp_ha hn.rp_ho) (m _ hn.rr_hp hn.rr_ha hn.rr_ho) (m _ hn.rk_hp hn.rk_ha hn.rk_ho), hs, ?_, h.n_slab, h.n_rows, h.n_tiers⟩
  rcases hob with rfl | ⟨g, rfl, hg⟩
  · exact h.nodup
  · show ([g] ++ d.fixed).Nodup
    exact List.nodup_cons.2 ⟨fun hc => by have := h.ltAll g (List.mem_append_right _ hc); omega, (d.apart h.nodup).1⟩

theorem QueueAt.handleTo (h : QueueAt w d q) {i : Nat} (hi : i < q.n) (v : Int) : QueueAt (w.setCell ⟨d.hd, i, none⟩ (.int .u64 v)) d { q with handles := upd q.handles i v } := by
  have hn := d.ne h.nodup
  have ho : Only [d.hd] w (w.setCell ⟨d.hd, i, none⟩ (.int .u64 v)) := (Only.refl [d.hd] w).st (.inl (by simp)) (h.c_hd i hi)
  have m : ∀ b, b ≠ d.hd → b ∉ [d.hd] := fun b h1 => by simp [h1]
  refine ⟨ho.cell h.q0 (m _ hn.qb_hd), ho.cell h.q1 (m _ hn.qb_hd), ho.cell h.q2 (m _ hn.qb_hd), ho.cell h.q3 (m _ hn.qb_hd), ho.cell h.q4 (m _ hn.qb_hd),
    fun i => (ho.frozen (cell_lt h.q0) (m _ hn.qb_hd)).trans (h.z_qb i), fun i => (frozen_set _ _ _ _).trans (h.z_hd i), Nat.lt_of_lt_of_le h.lt_hd ho.size, fun j hj => ?_,
    h.slab.only ho (m _ hn.sp_hd) (m _ hn.sc_hd), h.rows.only ho (m _ hn.rp_hd) (m _ hn.rr_hd) (m _ hn.rk_hd), h.heap.only ho (m _ hn.hp_hd) (m _ hn.ha_hd) (fun b hb => m b (hn.ho_hd b hb)), h.nodup, h.n_slab, h.n_rows, h.n_tiers⟩
  by_cases e : j = i
  · subst e; rw [cell_set_eq (h.c_hd j hj)]; simp
  · exact (cell_set_ne (.inr e)).trans ((h.c_hd j hj).trans (by simp [upd_other e]))

/-- a queue, as rows of handles and requests -/
structure QV (w : World) (d : QIds) (n nt : Nat) (T : Int) (rows : Nat → List (Int × Rq)) : Prop where
  ex : ∃ q R, QueueAt w d q ∧ QOk q R T ∧ q.n = n ∧ q.rows.nr = nt ∧ ∀ t, rows t = if t < nt then (R t).map fun i => (q.handles i, q.slab.req i) else []

theorem QV.only {S : List Nat} {n nt : Nat} {T : Int} {rows : Nat → List (Int × Rq)} (h : QV w d n nt T rows) (ho : Only S w w') (hs : ∀ b ∈ d.list, b ∉ S) : QV w' d n nt T rows := by
  obtain ⟨q, R, h1, h2⟩ := h.ex
  exact ⟨q, R, h1.only ho hs, h2⟩

theorem QV.nodup {n nt : Nat} {T : Int} {rows : Nat → List (Int × Rq)} (h : QV w d n nt T rows) : d.list.Nodup := by
  obtain ⟨q, R, h1, h2⟩ := h.ex
  exact h1.nodup

theorem QV.lt {n nt : Nat} {T : Int} {rows : Nat → List (Int × Rq)} (h : QV w d n nt T rows) : ∀ b ∈ d.list, b < w.heap.size := by
  obtain ⟨q, R, h1, h2⟩ := h.ex
  exact h1.ltAll

variable {n nt : Nat} {T : Int} {rows : Nat → List (Int × Rq)}

theorem qNew_ok {nr m : Nat} (h1 : 1 ≤ nr) (h2 : nr ≤ 8) (h3 : 1 ≤ m) (h4 : m ≤ 1024) {w : World} {K : Value → World → Prop}
    (hK : ∀ w' d, Only [] w w' → (∀ b ∈ d.list, w.heap.size ≤ b) → QV w' d m nr 0 (fun _ => []) → K (.tuple #[.pointer (some ⟨d.qb, 0, none⟩), .int .i64 0]) w') :
    CallsV P 78 #[.int .i64 (nr : Int), .int .i64 (m : Int)] w K := by
  refine queueNew_ok h1 h2 h3 h4 fun w' d q o1 l1 a1 e1 e2 e3 e4 e5 e6 => hK w' d o1 l1 ⟨q, fun _ => [], a1, qOk_new h4 h2 e1 e3 e4 e5 e6, e1, e4.enr, fun t => by split <;> rfl⟩

/-- a row's member, as a cell -/
theorem row_split {R : Nat → List Nat} (hr : ∀ t, rows t = if t < nt then (R t).map fun i => (q.handles i, q.slab.req i) else []) {t : Nat} {a b : List (Int × Rq)} {x : Int} {r : Rq} (ht : t < nt) (h : rows t = a ++ (x, r) :: b) :
    ∃ (a' : List Nat) (i : Nat) (b' : List Nat), R t = a' ++ i :: b' ∧ a = a'.map (fun i => (q.handles i, q.slab.req i)) ∧ x = q.handles i ∧ r = q.slab.req i ∧ b = b'.map (fun i => (q.handles i, q.slab.req i)) := by
  rw [hr t, if_pos ht] at h
  obtain ⟨a', c', e1, e2, e3⟩ := List.map_eq_append_iff.1 h
  obtain ⟨i, b', e4, e5, e6⟩ := List.map_eq_cons_iff.1 e3
  simp only [Prod.mk.injEq] at e5
  exact ⟨a', i, b', by rw [e1, e4], e2.symm, e5.1.symm, e5.2.symm, e6.symm⟩


end Go.M

/- What the functions of the queue do: Take. -/
set_option linter.all false
set_option linter.constructorNameAsVariable false
set_option maxRecDepth 100000
namespace Go.M
open Go Go.Eng Go.RowKit

variable {w w' : World} {K : Value → World → Prop} {d : QIds} {n nt : Nat} {T : Int} {rows : Nat → List (Int × Rq)}

theorem ReqAt.only {S : List Nat} {rb : Nat} {r : Rq} (h : ReqAt w rb r) (ho : Only S w w') (hs : rb ∉ S) : ReqAt w' rb r :=
  ⟨ho.cell h.c0 hs, ho.cell h.c1 hs, ho.cell h.c2 hs, ho.cell h.c3 hs, ho.cell h.c4 hs⟩

theorem cell_q {w : World} {h : Int} (h0 : 0 ≤ h) (h1 : h < 18446744073709551616) : QCall P 181 #[.int .u64 h] w (.int .i64 (h % 4294967296)) :=
  qOf fun w1 K hk => cell_ok h0 h1 (hk _ (Only.refl _ _))

theorem lt_notin {L : List Nat} {m b : Nat} (h : ∀ x ∈ L, x < m) (hb : m ≤ b) : b ∉ L := fun hc => by have := h b hc; omega

theorem qTake_ok (h : QV w d n nt T rows) (hT : T ≤ 4294967295) {t : Nat} (ht : t < nt) {a b : List (Int × Rq)} {x : Int} {r : Rq} (hr : rows t = a ++ (x, r) :: b)
    (hK : ∀ w', Only d.list w w' → QV w' d n nt T (upd rows t (a ++ b)) → K (.tuple #[r.v, .int .i64 0]) w') : CallsV P 178 #[.pointer (some ⟨d.qb, 0, none⟩), .int .u64 x] w K := by
  obtain ⟨q, R, h1, h2, rfl, rfl, h3⟩ := h.ex
  obtain ⟨a', i, b', e1, e2, e3, e4, e5⟩ := row_split h3 ht hr
  subst e3 e4
  have hn1 := h2.n1
  have hll := h2.hlen
  obtain ⟨hi, htk, hrow⟩ := h2.mem h1.n_rows ht (i := i) (by rw [e1]; simp)
  obtain ⟨fl, hs⟩ := h2.slab
  obtain ⟨k1, k2, k3, k4, k5⟩ := h2.at h1.n_slab hi htk hT
  have hturn : ∀ i, 0 ≤ q.slab.turns i ∧ q.slab.turns i ≤ 4294967295 := fun i => ⟨(hs.turns i).1, by have := (hs.turns i).2; omega⟩
  obtain ⟨hrm, r1, r2, r3, r4, r5⟩ := h2.rows.remove ht e1
  have hlink : ∀ j, j ∈ R t → j < q.rows.nk := fun j hj => (h2.rows.row t ht j hj).1
  have hp : q.rows.prev i = -1 ∨ ∃ j : Nat, q.rows.prev i = j ∧ j < q.rows.nk := by
    rcases lst_cases a' (-1) with ⟨_, e⟩ | ⟨a2, j, e6, e7⟩
    · exact .inl (by rw [r2, e])
    · exact .inr ⟨j, by rw [r2, e7], hlink j (by rw [e1, e6]; simp)⟩
  have hnx : q.rows.next i = -1 ∨ ∃ j : Nat, q.rows.next i = j ∧ j < q.rows.nk := by
    cases b' with
    | nil => exact .inl r3
    | cons j b2 => exact .inr ⟨j, r3, hlink j (by rw [e1]; simp)⟩
  have hcount := h2.rows.count t ht
  have hclen : (R t).length ≤ 1024 := by
    have := nodup_le (h2.rows.nodup t ht) (m := q.n) fun j hj => (h2.mem h1.n_rows ht hj).1
    omega
  have hat : q.at_ i ≠ -1 := by
    obtain ⟨e, ⟨k, hk, he⟩, hei⟩ := (h2.ta i hi).1 htk
    have := h2.hinv.here k hk
    rw [he, hei] at this
    omega
  have hne := d.ne h1.nodup
  have hlt := h1.ltAll
  refine m_tierq_Queue_Take_ok ?_
  unfold m_tierq_Queue_Take
  refine al_intro ?_
  obtain ⟨W, hW⟩ : ∃ W, w.alloc (.cells #[.int .u64 0, .int .i64 0, .int .i64 0, .int .i64 0, .int .i64 0] 130) = W := ⟨_, rfl⟩
  have o0 : Only [] w W := by rw [← hW]; exact Only.alloc _ _
  have a0 : ReqAt W w.heap.size ⟨0, 0, 0, 0, 0⟩ := by rw [← hW]; constructor <;> simp [cell_new]
  have z0 : ∀ i, W.frozen? ⟨w.heap.size, i, none⟩ = false := by intro i; rw [← hW]; simp [frozen_new]
  rw [hW]
  have lt0 : w.heap.size < W.heap.size := cell_lt a0.c0
  have g0 := h1.only o0 (by simp)
  have hget : q.slab.get (q.handles i) = (q.slab.req i, 0) := by unfold SlabM.get; rw [k1]
  refine queueGet_ok g0 k2 k3 hturn fun w2 o2 => ?_
  rw [hget]
  refine ⟨_, _, _, _, _, _, rfl, al_intro ?_⟩
  obtain ⟨W2, hW2⟩ : ∃ W2, w2.alloc (.cells #[.int .u64 0, .int .i64 0, .int .i64 0, .int .i64 0, .int .i64 0] 130) = W2 := ⟨_, rfl⟩
  have o3 : Only [] w2 W2 := by rw [← hW2]; exact Only.alloc _ _
  have a2 : ReqAt W2 w2.heap.size ⟨0, 0, 0, 0, 0⟩ := by rw [← hW2]; constructor <;> simp [cell_new]
  have z2 : ∀ i, W2.frozen? ⟨w2.heap.size, i, none⟩ = false := by intro i; rw [← hW2]; simp [frozen_new]
  rw [hW2]
  simp only [addr_add, Nat.add_zero, Nat.zero_add]
  have hw2s := o2.size
  have o23 : Only [] W W2 := o2.trans o3
  refine rq_store (r := q.slab.req i) a2 z2 (o0.trans o23) (by omega) fun w3 o4 o4' b3 => if_no (by simp) (nn_some ?_)
  have lt2 : w2.heap.size < W2.heap.size := cell_lt a2.c0
  have n02 : w.heap.size ∉ [w2.heap.size] := by simp only [List.mem_singleton]; omega
  have oW3 : Only [w2.heap.size] W w3 := (o23.mono (by simp)).trans o4'
  have a3 := a0.only oW3 n02
  have z3 : ∀ i, w3.frozen? ⟨w.heap.size, i, none⟩ = false := fun i => (oW3.frozen lt0 n02).trans (z0 i)
  have s3 := oW3.size
  have g3 := h1.only o4 (by simp)
  simp only [addr_add, Nat.add_zero, Nat.zero_add]
  refine ld_ptr g3.q0 (free_ok g3.slab k2 k3 hturn k1 fun w4 o5 s4 => ⟨_, rfl, nn_some ?_⟩)
  have g4 := g3.slabTo o5 s4 (by show q.slab.n = q.n; exact h1.n_slab)
  have g4d := g4.only (Only.drew (S := []) w4) (by simp)
  simp only [addr_add, Nat.add_zero, Nat.zero_add]
  refine ld_ptr g4d.q1 ⟨_, cell_q k2 k3, fun w5 hb5 => ?_⟩
  have ob5 : Only [] w4 w5 := (Only.drew (S := []) w4).trans (onlyBelow hb5)
  have g5 := g4.only ob5 (by simp)
  rw [k5]
  refine rowsRemove_ok g5.rows (t := t) (by rw [h1.n_rows]; exact hi) ht r1 hp hnx (by rw [hcount]; omega) fun w6 o6 s6 => ⟨_, rfl, nn_some ?_⟩
  obtain ⟨p1, p2, p3⟩ := remove_fields q.rows i
  have g6 := g5.rowsTo o6 s6 p2 p1
  have g6d := g6.only (Only.drew (S := []) w6) (by simp)
  simp only [addr_add, Nat.add_zero, Nat.zero_add]
  refine ld_ptr g6d.q2 ⟨_, cell_q k2 k3, fun w7 hb7 => ?_⟩
  have ob7 : Only [] w6 w7 := (Only.drew (S := []) w6).trans (onlyBelow hb7)
  have g7 := g6.only ob7 (by simp)
  rw [k5]
  refine heapRemove_ok g7.heap hi hat h2.heap h2.hinv h2.hlen fun w8 l' at' o8 s8 hrh => ⟨_, rfl, ?_⟩
  have g8 : QueueAt w8 d _ := g7.heapTo (o8) s8 (.inl rfl)
  have sub1 : ∀ x ∈ [d.sp, d.sc], x ∈ d.list := fun x hx => by simp [QIds.list, QIds.fixed] at hx ⊢; rcases hx with h | h <;> simp [h]
  have sub2 : ∀ x ∈ [d.rp, d.rr, d.rk], x ∈ d.list := fun x hx => by simp [QIds.list, QIds.fixed] at hx ⊢; rcases hx with h | h | h <;> simp [h]
  have sub3 : ∀ x ∈ d.hp :: d.ha :: d.ho.toList, x ∈ d.list := fun x hx => by simp [QIds.list, QIds.fixed] at hx ⊢; rcases hx with h | h | h <;> simp [h]
  have oL : Only d.list w3 w8 := ((((o5.mono sub1).trans (ob5.mono (by simp))).trans (o6.mono sub2)).trans (ob7.mono (by simp))).trans (o8.mono sub3)
  have hb0 : w.heap.size ∉ d.list := lt_notin hlt (Nat.le_refl _)
  have hb2 : w2.heap.size ∉ d.list := lt_notin hlt (by omega)
  have b8 := b3.only oL hb2
  have a8 := a3.only oL hb0
  have z8 : ∀ i, w8.frozen? ⟨w.heap.size, i, none⟩ = false := fun i => (oL.frozen (by omega) hb0).trans (z3 i)
  refine ld_int b8.c0 (ld_int b8.c1 (ld_int b8.c2 (ld_int b8.c3 (ld_int b8.c4 ?_))))
  have oAll : Only d.list w w8 := (o4.mono (by simp)).trans oL
  refine rq_store (r := q.slab.req i) a8 z8 oAll (Nat.le_refl _) fun w9 o9 o9' b9 => ?_
  refine ld_int b9.c0 (ld_int b9.c1 (ld_int b9.c2 (ld_int b9.c3 (ld_int b9.c4 (hK w9 o9 ?_)))))
  have hok := h2.take h1.n_slab h1.n_rows ht e1 hrh
  refine ⟨_, _, g8.only o9' fun b hb hc => ?_, hok, rfl, p1, fun t' => ?_⟩
  · have : b = w.heap.size := by simpa using hc
    subst this
    exact hb0 hb
  · by_cases e : t' = t
    · subst e
      rw [upd_same, if_pos ht, upd_same, e2, e5, List.map_append]
      rfl
    · rw [upd_other e, h3 t', upd_other e]
      rfl

end Go.M

/- What the functions of the queue do: Put, Get, the ends, how many. -/
set_option linter.all false
set_option linter.constructorNameAsVariable false
set_option maxRecDepth 100000
namespace Go.M
open Go Go.Eng Go.RowKit

variable {w w' : World} {K : Value → World → Prop} {d : QIds} {n nt : Nat} {T : Int} {rows : Nat → List (Int × Rq)}

theorem allR_rows {q : QueueM} {R : Nat → List Nat} (hr : ∀ t, rows t = if t < nt then (R t).map fun i => (q.handles i, q.slab.req i) else []) : (allR rows nt).length = (allR R nt).length :=
  allR_len_map fun t ht => by rw [hr t, if_pos ht, List.length_map]

theorem qPut_ok (h : QV w d n nt T rows) (hT : T + 1 ≤ 4294967295) {r : Rq} {t : Nat} (ht : t < nt) (hrt : r.tier = t) (hfull : (allR rows nt).length < n)
    (hK : ∀ w' d' x, Only d.list w w' → d'.qb = d.qb → (∀ b ∈ d'.list, b ∈ d.list ∨ w.heap.size ≤ b) → QV w' d' n nt (T + 1) (upd rows t (rows t ++ [(x, r)])) → K (.tuple #[.int .u64 x, .int .i64 0]) w') :
    CallsV P 130 #[.pointer (some ⟨d.qb, 0, none⟩), r.v] w K := by
  obtain ⟨q, R, h1, h2, rfl, rfl, h3⟩ := h.ex
  rw [allR_rows h3] at hfull
  have hn1 := h2.n1
  have hnr1 := h2.nr1
  obtain ⟨fl, hs⟩ := h2.slab
  have htot := h2.tot
  obtain ⟨i, k1, hi, k3, k4, k5, k6, k7, hput⟩ := h2.put h1.n_slab h1.n_rows (by omega) ht hrt
  have hlt := h1.ltAll
  have hslen := hs.len_le
  have hlink : ∀ j, j ∈ R t → j < q.rows.nk := fun j hj => (h2.rows.row t ht j hj).1
  have hback : q.rows.back t = -1 ∨ ∃ j : Nat, q.rows.back t = j ∧ j < q.rows.nk := by
    rw [h2.rows.back t ht]
    rcases lst_cases (R t) (-1) with ⟨_, e⟩ | ⟨a2, j, e6, e7⟩
    · exact .inl e
    · exact .inr ⟨j, e7, hlink j (by rw [e6]; simp)⟩
  have hcount := h2.rows.count t ht
  have hclen : (R t).length ≤ 1024 := by
    have := nodup_le (h2.rows.nodup t ht) (m := q.n) fun j hj => (h2.mem h1.n_rows ht hj).1
    omega
  -- fewer entries than there is room for
  have hl1 : q.l.length + 1 ≤ 1024 := by
    have hadd := HInv.add (V := fun k => if k < q.l.length then el q.l k else ⟨0, 0, i⟩) (h2.hinv.ext (fun j hj => by simp [hj]) (fun _ _ => rfl)) hi k5 (by simp)
    have := hlen_le hadd
    omega
  have hht := h1.n_tiers
  refine m_tierq_Queue_Put_ok ?_
  unfold m_tierq_Queue_Put
  refine al_intro (if_no (by simp) ?_)
  obtain ⟨W, hW⟩ : ∃ W, (w.alloc (.cells #[.int .u64 r.ticket, .int .i64 r.tier, .int .i64 r.cohort, .int .i64 r.deadline, .int .i64 r.arrived] 130)).drew = W := ⟨_, rfl⟩
  have o0 : Only [] w W := by rw [← hW]; exact (Only.alloc _ _).trans (Only.drew _)
  have a0 : ReqAt W w.heap.size r := by rw [← hW]; constructor <;> simp [cell_new, cell_drew]
  rw [hW]
  have g0 := h1.only o0 (by simp)
  simp only [addr_add, Nat.add_zero, Nat.zero_add]
  refine ld_int a0.c1 (if_no (by simp; omega) (ld_int a0.c1 (nn_some ?_)))
  simp only [addr_add, Nat.add_zero, Nat.zero_add]
  refine ld_int g0.q4 (if_no (by simp; omega) ?_)
  unfold m_tierq_Queue_Put_c3
  simp only
  have od : Only [] W W.drew := Only.drew W
  have ad := a0.only od (by simp)
  have gd := g0.only od (by simp)
  refine nn_some ?_
  simp only [addr_add, Nat.add_zero, Nat.zero_add]
  refine ld_ptr gd.q0 (ld_int ad.c0 (ld_int ad.c1 (ld_int ad.c2 (ld_int ad.c3 (ld_int ad.c4 ?_)))))
  refine take_ok (q := r) gd.slab k1 (by rw [h1.n_slab]; exact hi) (by rw [h1.n_slab]; exact hn1) ⟨k6, by omega⟩ (by omega) fun w1 o1 s1 => ⟨_, _, rfl, if_no (by simp) ?_⟩
  obtain ⟨f1, f2, f3, f4, f5, f6, f7, f8, f9⟩ := take_fields q.slab i r
  have g1 := gd.slabTo o1 s1 (f1.trans h1.n_slab)
  have hcell : ((q.slab.turns i + 1) * 4294967296 + (i : Int)) % 4294967296 = (i : Int) := by omega
  refine cell_ok (by omega) (by omega) ⟨_, rfl, nn_some ?_⟩
  rw [hcell]
  simp only [addr_add, Nat.add_zero, Nat.zero_add]
  refine ld_slice g1.q3 (ix_nat hi ?_)
  simp only [addr_add, Nat.add_zero, Nat.zero_add, Int.toNat_natCast, Nat.mul_one]
  have g2 := g1.handleTo hi ((q.slab.turns i + 1) * 4294967296 + (i : Int))
  have o2 : Only [d.hd] w1 _ := (Only.refl [d.hd] w1).st (v := .int .u64 ((q.slab.turns i + 1) * 4294967296 + (i : Int))) (.inl (by simp)) (g1.c_hd i hi)
  refine St_at (g1.c_hd i hi) (g1.z_hd _) (nn_some ?_)
  have o2d := o2.trans (Only.drew _)
  have g2d := g2.only (Only.drew (S := []) _) (by simp)
  have sub1 : ∀ x ∈ [d.sp, d.sc], x ∈ d.list := fun x hx => by simp [QIds.list, QIds.fixed] at hx ⊢; rcases hx with h | h <;> simp [h]
  have sub2 : ∀ x ∈ [d.rp, d.rr, d.rk], x ∈ d.list := fun x hx => by simp [QIds.list, QIds.fixed] at hx ⊢; rcases hx with h | h | h <;> simp [h]
  have sub3 : ∀ x ∈ d.hp :: d.ha :: d.ho.toList, x ∈ d.list := fun x hx => by simp [QIds.list, QIds.fixed] at hx ⊢; rcases hx with h | h | h <;> simp [h]
  have sub4 : ∀ x ∈ [d.hd], x ∈ d.list := fun x hx => by simp [QIds.list, QIds.fixed] at hx ⊢; simp [hx]
  have hb0 : w.heap.size ∉ d.list := lt_notin hlt (Nat.le_refl _)
  have oL2 : Only d.list W _ := ((od.mono (T := d.list) (by simp)).trans (o1.mono sub1)).trans (o2d.mono sub4)
  have a2 := a0.only oL2 hb0
  simp only [addr_add, Nat.add_zero, Nat.zero_add]
  refine ld_ptr g2d.q1 (ld_int a2.c1 ?_)
  rw [hrt]
  refine push_ok g2d.rows ht (by show i < q.rows.nk; rw [h1.n_rows]; exact hi) k4 hback (by show 0 ≤ q.rows.count t ∧ q.rows.count t + 1 ≤ 9223372036854775807; rw [hcount]; omega) fun w3 o3 s3 => ⟨_, rfl, nn_some ?_⟩
  obtain ⟨p1, p2, p3⟩ := push_fields q.rows t i
  have g3 := g2d.rowsTo o3 s3 p2 p1
  have o3d := o3.trans (Only.drew w3)
  have g3d := g3.only (Only.drew (S := []) w3) (by simp)
  have oL3 := oL2.trans (o3d.mono sub2)
  have a3 := a0.only oL3 hb0
  simp only [addr_add, Nat.add_zero, Nat.zero_add]
  refine ld_ptr g3d.q2 (ld_int a3.c3 (ld_int a3.c0 ?_))
  refine heapPut_ok g3d.heap hi k5 h2.heap h2.hinv hl1 fun w4 ob' l' at' o4 s4 hob hph => ⟨_, rfl, ?_⟩
  have g4 := g3d.heapTo o4 s4 hob
  have hWs : w.heap.size ≤ W.heap.size := o0.size
  have hL3s := oL3.size
  simp only [m_tierq_Queue_Put_c3_o]
  refine hK w4 { d with ho := ob' } _ ((o0.mono (T := d.list) (by simp)).trans (oL3.trans (o4.mono sub3))) rfl (fun b hb => ?_) ⟨_, _, g4, hput l' at' hph, rfl, p1, fun t' => ?_⟩
  · simp only [QIds.list, List.mem_append] at hb ⊢
    rcases hb with hb | hb
    · rcases hob with e | ⟨g, e, hg⟩
      · exact .inl (.inl (by rw [← e]; exact hb))
      · have : b = g := by rw [e] at hb; simpa using hb
        subst this
        exact .inr (by omega)
    · exact .inl (.inr hb)
  · have hne : ∀ t', t' < q.rows.nr → ∀ j ∈ R t', j ≠ i := fun t' ht' j hj e => by
      have := (h2.mem h1.n_rows ht' hj).2.1
      rw [e, k3] at this
      cases this
    have hmap : ∀ t', t' < q.rows.nr → (R t').map (fun j => (upd q.handles i ((q.slab.turns i + 1) * 4294967296 + (i : Int)) j, (q.slab.take i r).req j)) = (R t').map (fun j => (q.handles j, q.slab.req j)) := fun t' ht' =>
      List.map_congr_left fun j hj => by
        have e := hne t' ht' j hj
        unfold SlabM.req
        rw [f2, f3, f4, f5, f6, upd_other e, upd_other e, upd_other e, upd_other e, upd_other e, upd_other e]
    show upd rows t _ t' = if t' < q.rows.nr then (upd R t (R t ++ [i]) t').map (fun j => (upd q.handles i ((q.slab.turns i + 1) * 4294967296 + (i : Int)) j, (q.slab.take i r).req j)) else []
    by_cases e : t' = t
    · subst e
      rw [upd_same, if_pos ht, upd_same, List.map_append, hmap t' ht, h3 t', if_pos ht]
      congr 1
      simp only [List.map_cons, List.map_nil, upd_same, SlabM.req, f2, f3, f4, f5, f6]
    · rw [upd_other e, upd_other e, h3 t']
      split
      · rename_i h5; exact (hmap t' h5).symm
      · rfl

end Go.M
