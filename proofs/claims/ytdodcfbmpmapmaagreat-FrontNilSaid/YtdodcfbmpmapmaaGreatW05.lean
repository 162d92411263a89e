/- Proofs about the front of the overload controller, part 5: Pred. -/
import Derived.Test.YtdodcfbmpmapmaaGreatW04
set_option linter.all false
set_option linter.constructorNameAsVariable false
set_option linter.unusedVariables false
/- Objects in memory (printed by predgen.py). -/
set_option linter.all false
set_option linter.constructorNameAsVariable false
namespace Go.M
open Go Go.Eng Go.RowKit

structure SlabM where
  n : Nat
  freed : Int
  fresh : Int
  len : Int
  ticket : Nat → Int
  tier : Nat → Int
  cohort : Nat → Int
  deadline : Nat → Int
  arrived : Nat → Int
  turns : Nat → Int
  taken : Nat → Bool
  next : Nat → Int

structure SlabAt (w : World) (pb cb : Nat) (s : SlabM) : Prop where
  ne_pb_cb : pb ≠ cb
  h_cells : w.cell? ⟨pb, 0, none⟩ = some (.slice (some ⟨cb, 0, none⟩) s.n s.n)
  h_freed : w.cell? ⟨pb, 1, none⟩ = some (.int .i64 (s.freed))
  h_fresh : w.cell? ⟨pb, 2, none⟩ = some (.int .i64 (s.fresh))
  h_len : w.cell? ⟨pb, 3, none⟩ = some (.int .i64 (s.len))
  c_ticket : ∀ i, i < s.n → w.cell? ⟨cb, i * 8, none⟩ = some (.int .u64 (s.ticket i))
  c_tier : ∀ i, i < s.n → w.cell? ⟨cb, i * 8 + 1, none⟩ = some (.int .i64 (s.tier i))
  c_cohort : ∀ i, i < s.n → w.cell? ⟨cb, i * 8 + 2, none⟩ = some (.int .i64 (s.cohort i))
  c_deadline : ∀ i, i < s.n → w.cell? ⟨cb, i * 8 + 3, none⟩ = some (.int .i64 (s.deadline i))
  c_arrived : ∀ i, i < s.n → w.cell? ⟨cb, i * 8 + 4, none⟩ = some (.int .i64 (s.arrived i))
  c_turns : ∀ i, i < s.n → w.cell? ⟨cb, i * 8 + 5, none⟩ = some (.int .u32 (s.turns i))
  c_taken : ∀ i, i < s.n → w.cell? ⟨cb, i * 8 + 6, none⟩ = some (.bool (s.taken i))
  c_next : ∀ i, i < s.n → w.cell? ⟨cb, i * 8 + 7, none⟩ = some (.int .i64 (s.next i))
  z_pb : ∀ i, w.frozen? ⟨pb, i, none⟩ = false
  z_cb : ∀ i, w.frozen? ⟨cb, i, none⟩ = false
  lt_pb : pb < w.heap.size
  lt_cb : cb < w.heap.size

theorem SlabAt.only {S : List Nat} {w w' : World} {pb cb : Nat} {s : SlabM} (h : SlabAt w pb cb s) (ho : Only S w w') (kpb : pb ∉ S) (kcb : cb ∉ S) : SlabAt w' pb cb s where
  ne_pb_cb := h.ne_pb_cb
  h_cells := ho.cell h.h_cells kpb
  h_freed := ho.cell h.h_freed kpb
  h_fresh := ho.cell h.h_fresh kpb
  h_len := ho.cell h.h_len kpb
  c_ticket := fun i hi => ho.cell (h.c_ticket i hi) kcb
  c_tier := fun i hi => ho.cell (h.c_tier i hi) kcb
  c_cohort := fun i hi => ho.cell (h.c_cohort i hi) kcb
  c_deadline := fun i hi => ho.cell (h.c_deadline i hi) kcb
  c_arrived := fun i hi => ho.cell (h.c_arrived i hi) kcb
  c_turns := fun i hi => ho.cell (h.c_turns i hi) kcb
  c_taken := fun i hi => ho.cell (h.c_taken i hi) kcb
  c_next := fun i hi => ho.cell (h.c_next i hi) kcb
  z_pb := fun i => (ho.frozen h.lt_pb kpb).trans (h.z_pb i)
  z_cb := fun i => (ho.frozen h.lt_cb kcb).trans (h.z_cb i)
  lt_pb := Nat.lt_of_lt_of_le h.lt_pb ho.size
  lt_cb := Nat.lt_of_lt_of_le h.lt_cb ho.size

theorem SlabAt.set_freed {w : World} {pb cb : Nat} {s : SlabM} (h : SlabAt w pb cb s) (v : Int) : SlabAt (w.setCell ⟨pb, 1, none⟩ (.int .i64 (v))) pb cb { s with freed := v } where
  ne_pb_cb := h.ne_pb_cb
  h_cells := (cell_set_ne (.inr (by omega))).trans h.h_cells
  h_freed := cell_set_eq h.h_freed
  h_fresh := (cell_set_ne (.inr (by omega))).trans h.h_fresh
  h_len := (cell_set_ne (.inr (by omega))).trans h.h_len
  c_ticket := fun j hj => (cell_set_ne (.inl (Ne.symm h.ne_pb_cb))).trans (h.c_ticket j hj)
  c_tier := fun j hj => (cell_set_ne (.inl (Ne.symm h.ne_pb_cb))).trans (h.c_tier j hj)
  c_cohort := fun j hj => (cell_set_ne (.inl (Ne.symm h.ne_pb_cb))).trans (h.c_cohort j hj)
  c_deadline := fun j hj => (cell_set_ne (.inl (Ne.symm h.ne_pb_cb))).trans (h.c_deadline j hj)
  c_arrived := fun j hj => (cell_set_ne (.inl (Ne.symm h.ne_pb_cb))).trans (h.c_arrived j hj)
  c_turns := fun j hj => (cell_set_ne (.inl (Ne.symm h.ne_pb_cb))).trans (h.c_turns j hj)
  c_taken := fun j hj => (cell_set_ne (.inl (Ne.symm h.ne_pb_cb))).trans (h.c_taken j hj)
  c_next := fun j hj => (cell_set_ne (.inl (Ne.symm h.ne_pb_cb))).trans (h.c_next j hj)
  z_pb := fun j => (frozen_set _ _ _ _).trans (h.z_pb j)
  z_cb := fun j => (frozen_set _ _ _ _).trans (h.z_cb j)
  lt_pb := by rw [size_setCell]; exact h.lt_pb
  lt_cb := by rw [size_setCell]; exact h.lt_cb

theorem SlabAt.set_fresh {w : World} {pb cb : Nat} {s : SlabM} (h : SlabAt w pb cb s) (v : Int) : SlabAt (w.setCell ⟨pb, 2, none⟩ (.int .i64 (v))) pb cb { s with fresh := v } where
  ne_pb_cb := h.ne_pb_cb
  h_cells := (cell_set_ne (.inr (by omega))).trans h.h_cells
  h_freed := (cell_set_ne (.inr (by omega))).trans h.h_freed
  h_fresh := cell_set_eq h.h_fresh
  h_len := (cell_set_ne (.inr (by omega))).trans h.h_len
  c_ticket := fun j hj => (cell_set_ne (.inl (Ne.symm h.ne_pb_cb))).trans (h.c_ticket j hj)
  c_tier := fun j hj => (cell_set_ne (.inl (Ne.symm h.ne_pb_cb))).trans (h.c_tier j hj)
  c_cohort := fun j hj => (cell_set_ne (.inl (Ne.symm h.ne_pb_cb))).trans (h.c_cohort j hj)
  c_deadline := fun j hj => (cell_set_ne (.inl (Ne.symm h.ne_pb_cb))).trans (h.c_deadline j hj)
  c_arrived := fun j hj => (cell_set_ne (.inl (Ne.symm h.ne_pb_cb))).trans (h.c_arrived j hj)
  c_turns := fun j hj => (cell_set_ne (.inl (Ne.symm h.ne_pb_cb))).trans (h.c_turns j hj)
  c_taken := fun j hj => (cell_set_ne (.inl (Ne.symm h.ne_pb_cb))).trans (h.c_taken j hj)
  c_next := fun j hj => (cell_set_ne (.inl (Ne.symm h.ne_pb_cb))).trans (h.c_next j hj)
  z_pb := fun j => (frozen_set _ _ _ _).trans (h.z_pb j)
  z_cb := fun j => (frozen_set _ _ _ _).trans (h.z_cb j)
  lt_pb := by rw [size_setCell]; exact h.lt_pb
  lt_cb := by rw [size_setCell]; exact h.lt_cb

theorem SlabAt.set_len {w : World} {pb cb : Nat} {s : SlabM} (h : SlabAt w pb cb s) (v : Int) : SlabAt (w.setCell ⟨pb, 3, none⟩ (.int .i64 (v))) pb cb { s with len := v } where
  ne_pb_cb := h.ne_pb_cb
  h_cells := (cell_set_ne (.inr (by omega))).trans h.h_cells
  h_freed := (cell_set_ne (.inr (by omega))).trans h.h_freed
  h_fresh := (cell_set_ne (.inr (by omega))).trans h.h_fresh
  h_len := cell_set_eq h.h_len
  c_ticket := fun j hj => (cell_set_ne (.inl (Ne.symm h.ne_pb_cb))).trans (h.c_ticket j hj)
  c_tier := fun j hj => (cell_set_ne (.inl (Ne.symm h.ne_pb_cb))).trans (h.c_tier j hj)
  c_cohort := fun j hj => (cell_set_ne (.inl (Ne.symm h.ne_pb_cb))).trans (h.c_cohort j hj)
  c_deadline := fun j hj => (cell_set_ne (.inl (Ne.symm h.ne_pb_cb))).trans (h.c_deadline j hj)
  c_arrived := fun j hj => (cell_set_ne (.inl (Ne.symm h.ne_pb_cb))).trans (h.c_arrived j hj)
  c_turns := fun j hj => (cell_set_ne (.inl (Ne.symm h.ne_pb_cb))).trans (h.c_turns j hj)
  c_taken := fun j hj => (cell_set_ne (.inl (Ne.symm h.ne_pb_cb))).trans (h.c_taken j hj)
  c_next := fun j hj => (cell_set_ne (.inl (Ne.symm h.ne_pb_cb))).trans (h.c_next j hj)
  z_pb := fun j => (frozen_set _ _ _ _).trans (h.z_pb j)
  z_cb := fun j => (frozen_set _ _ _ _).trans (h.z_cb j)
  lt_pb := by rw [size_setCell]; exact h.lt_pb
  lt_cb := by rw [size_setCell]; exact h.lt_cb

theorem SlabAt.set_ticket {w : World} {pb cb : Nat} {s : SlabM} (h : SlabAt w pb cb s) {i : Nat} (hi : i < s.n) (v : Int) : SlabAt (w.setCell ⟨cb, i * 8, none⟩ (.int .u64 (v))) pb cb { s with ticket := upd s.ticket i v } where
  ne_pb_cb := h.ne_pb_cb
  h_cells := (cell_set_ne (.inl h.ne_pb_cb)).trans h.h_cells
  h_freed := (cell_set_ne (.inl h.ne_pb_cb)).trans h.h_freed
  h_fresh := (cell_set_ne (.inl h.ne_pb_cb)).trans h.h_fresh
  h_len := (cell_set_ne (.inl h.ne_pb_cb)).trans h.h_len
  c_ticket := fun j hj => by
    by_cases e : j = i
    · subst e; rw [cell_set_eq (h.c_ticket j hj)]; simp
    · exact (cell_set_ne (.inr (by omega))).trans ((h.c_ticket j hj).trans (by simp [upd_other e]))
  c_tier := fun j hj => (cell_set_ne (.inr (by omega))).trans (h.c_tier j hj)
  c_cohort := fun j hj => (cell_set_ne (.inr (by omega))).trans (h.c_cohort j hj)
  c_deadline := fun j hj => (cell_set_ne (.inr (by omega))).trans (h.c_deadline j hj)
  c_arrived := fun j hj => (cell_set_ne (.inr (by omega))).trans (h.c_arrived j hj)
  c_turns := fun j hj => (cell_set_ne (.inr (by omega))).trans (h.c_turns j hj)
  c_taken := fun j hj => (cell_set_ne (.inr (by omega))).trans (h.c_taken j hj)
  c_next := fun j hj => (cell_set_ne (.inr (by omega))).trans (h.c_next j hj)
  z_pb := fun j => (frozen_set _ _ _ _).trans (h.z_pb j)
  z_cb := fun j => (frozen_set _ _ _ _).trans (h.z_cb j)
  lt_pb := by rw [size_setCell]; exact h.lt_pb
  lt_cb := by rw [size_setCell]; exact h.lt_cb

theorem SlabAt.set_tier {w : World} {pb cb : Nat} {s : SlabM} (h : SlabAt w pb cb s) {i : Nat} (hi : i < s.n) (v : Int) : SlabAt (w.setCell ⟨cb, i * 8 + 1, none⟩ (.int .i64 (v))) pb cb { s with tier := upd s.tier i v } where
  ne_pb_cb := h.ne_pb_cb
  h_cells := (cell_set_ne (.inl h.ne_pb_cb)).trans h.h_cells
  h_freed := (cell_set_ne (.inl h.ne_pb_cb)).trans h.h_freed
  h_fresh := (cell_set_ne (.inl h.ne_pb_cb)).trans h.h_fresh
  h_len := (cell_set_ne (.inl h.ne_pb_cb)).trans h.h_len
  c_ticket := fun j hj => (cell_set_ne (.inr (by omega))).trans (h.c_ticket j hj)
  c_tier := fun j hj => by
    by_cases e : j = i
    · subst e; rw [cell_set_eq (h.c_tier j hj)]; simp
    · exact (cell_set_ne (.inr (by omega))).trans ((h.c_tier j hj).trans (by simp [upd_other e]))
  c_cohort := fun j hj => (cell_set_ne (.inr (by omega))).trans (h.c_cohort j hj)
  c_deadline := fun j hj => (cell_set_ne (.inr (by omega))).trans (h.c_deadline j hj)
  c_arrived := fun j hj => (cell_set_ne (.inr (by omega))).trans (h.c_arrived j hj)
  c_turns := fun j hj => (cell_set_ne (.inr (by omega))).trans (h.c_turns j hj)
  c_taken := fun j hj => (cell_set_ne (.inr (by omega))).trans (h.c_taken j hj)
  c_next := fun j hj => (cell_set_ne (.inr (by omega))).trans (h.c_next j hj)
  z_pb := fun j => (frozen_set _ _ _ _).trans (h.z_pb j)
  z_cb := fun j => (frozen_set _ _ _ _).trans (h.z_cb j)
  lt_pb := by rw [size_setCell]; exact h.lt_pb
  lt_cb := by rw [size_setCell]; exact h.lt_cb

theorem SlabAt.set_cohort {w : World} {pb cb : Nat} {s : SlabM} (h : SlabAt w pb cb s) {i : Nat} (hi : i < s.n) (v : Int) : SlabAt (w.setCell ⟨cb, i * 8 + 2, none⟩ (.int .i64 (v))) pb cb { s with cohort := upd s.cohort i v } where
  ne_pb_cb := h.ne_pb_cb
  h_cells := (cell_set_ne (.inl h.ne_pb_cb)).trans h.h_cells
  h_freed := (cell_set_ne (.inl h.ne_pb_cb)).trans h.h_freed
  h_fresh := (cell_set_ne (.inl h.ne_pb_cb)).trans h.h_fresh
  h_len := (cell_set_ne (.inl h.ne_pb_cb)).trans h.h_len
  c_ticket := fun j hj => (cell_set_ne (.inr (by omega))).trans (h.c_ticket j hj)
  c_tier := fun j hj => (cell_set_ne (.inr (by omega))).trans (h.c_tier j hj)
  c_cohort := fun j hj => by
    by_cases e : j = i
    · subst e; rw [cell_set_eq (h.c_cohort j hj)]; simp
    · exact (cell_set_ne (.inr (by omega))).trans ((h.c_cohort j hj).trans (by simp [upd_other e]))
  c_deadline := fun j hj => (cell_set_ne (.inr (by omega))).trans (h.c_deadline j hj)
  c_arrived := fun j hj => (cell_set_ne (.inr (by omega))).trans (h.c_arrived j hj)
  c_turns := fun j hj => (cell_set_ne (.inr (by omega))).trans (h.c_turns j hj)
  c_taken := fun j hj => (cell_set_ne (.inr (by omega))).trans (h.c_taken j hj)
  c_next := fun j hj => (cell_set_ne (.inr (by omega))).trans (h.c_next j hj)
  z_pb := fun j => (frozen_set _ _ _ _).trans (h.z_pb j)
  z_cb := fun j => (frozen_set _ _ _ _).trans (h.z_cb j)
  lt_pb := by rw [size_setCell]; exact h.lt_pb
  lt_cb := by rw [size_setCell]; exact h.lt_cb

theorem SlabAt.set_deadline {w : World} {pb cb : Nat} {s : SlabM} (h : SlabAt w pb cb s) {i : Nat} (hi : i < s.n) (v : Int) : SlabAt (w.setCell ⟨cb, i * 8 + 3, none⟩ (.int .i64 (v))) pb cb { s with deadline := upd s.deadline i v } where
  ne_pb_cb := h.ne_pb_cb
  h_cells := (cell_set_ne (.inl h.ne_pb_cb)).trans h.h_cells
  h_freed := (cell_set_ne (.inl h.ne_pb_cb)).trans h.h_freed
  h_fresh := (cell_set_ne (.inl h.ne_pb_cb)).trans h.h_fresh
  h_len := (cell_set_ne (.inl h.ne_pb_cb)).trans h.h_len
  c_ticket := fun j hj => (cell_set_ne (.inr (by omega))).trans (h.c_ticket j hj)
  c_tier := fun j hj => (cell_set_ne (.inr (by omega))).trans (h.c_tier j hj)
  c_cohort := fun j hj => (cell_set_ne (.inr (by omega))).trans (h.c_cohort j hj)
  c_deadline := fun j hj => by
    by_cases e : j = i
    · subst e; rw [cell_set_eq (h.c_deadline j hj)]; simp
    · exact (cell_set_ne (.inr (by omega))).trans ((h.c_deadline j hj).trans (by simp [upd_other e]))
  c_arrived := fun j hj => (cell_set_ne (.inr (by omega))).trans (h.c_arrived j hj)
  c_turns := fun j hj => (cell_set_ne (.inr (by omega))).trans (h.c_turns j hj)
  c_taken := fun j hj => (cell_set_ne (.inr (by omega))).trans (h.c_taken j hj)
  c_next := fun j hj => (cell_set_ne (.inr (by omega))).trans (h.c_next j hj)
  z_pb := fun j => (frozen_set _ _ _ _).trans (h.z_pb j)
  z_cb := fun j => (frozen_set _ _ _ _).trans (h.z_cb j)
  lt_pb := by rw [size_setCell]; exact h.lt_pb
  lt_cb := by rw [size_setCell]; exact h.lt_cb

theorem SlabAt.set_arrived {w : World} {pb cb : Nat} {s : SlabM} (h : SlabAt w pb cb s) {i : Nat} (hi : i < s.n) (v : Int) : SlabAt (w.setCell ⟨cb, i * 8 + 4, none⟩ (.int .i64 (v))) pb cb { s with arrived := upd s.arrived i v } where
  ne_pb_cb := h.ne_pb_cb
  h_cells := (cell_set_ne (.inl h.ne_pb_cb)).trans h.h_cells
  h_freed := (cell_set_ne (.inl h.ne_pb_cb)).trans h.h_freed
  h_fresh := (cell_set_ne (.inl h.ne_pb_cb)).trans h.h_fresh
  h_len := (cell_set_ne (.inl h.ne_pb_cb)).trans h.h_len
  c_ticket := fun j hj => (cell_set_ne (.inr (by omega))).trans (h.c_ticket j hj)
  c_tier := fun j hj => (cell_set_ne (.inr (by omega))).trans (h.c_tier j hj)
  c_cohort := fun j hj => (cell_set_ne (.inr (by omega))).trans (h.c_cohort j hj)
  c_deadline := fun j hj => (cell_set_ne (.inr (by omega))).trans (h.c_deadline j hj)
  c_arrived := fun j hj => by
    by_cases e : j = i
    · subst e; rw [cell_set_eq (h.c_arrived j hj)]; simp
    · exact (cell_set_ne (.inr (by omega))).trans ((h.c_arrived j hj).trans (by simp [upd_other e]))
  c_turns := fun j hj => (cell_set_ne (.inr (by omega))).trans (h.c_turns j hj)
  c_taken := fun j hj => (cell_set_ne (.inr (by omega))).trans (h.c_taken j hj)
  c_next := fun j hj => (cell_set_ne (.inr (by omega))).trans (h.c_next j hj)
  z_pb := fun j => (frozen_set _ _ _ _).trans (h.z_pb j)
  z_cb := fun j => (frozen_set _ _ _ _).trans (h.z_cb j)
  lt_pb := by rw [size_setCell]; exact h.lt_pb
  lt_cb := by rw [size_setCell]; exact h.lt_cb

theorem SlabAt.set_turns {w : World} {pb cb : Nat} {s : SlabM} (h : SlabAt w pb cb s) {i : Nat} (hi : i < s.n) (v : Int) : SlabAt (w.setCell ⟨cb, i * 8 + 5, none⟩ (.int .u32 (v))) pb cb { s with turns := upd s.turns i v } where
  ne_pb_cb := h.ne_pb_cb
  h_cells := (cell_set_ne (.inl h.ne_pb_cb)).trans h.h_cells
  h_freed := (cell_set_ne (.inl h.ne_pb_cb)).trans h.h_freed
  h_fresh := (cell_set_ne (.inl h.ne_pb_cb)).trans h.h_fresh
  h_len := (cell_set_ne (.inl h.ne_pb_cb)).trans h.h_len
  c_ticket := fun j hj => (cell_set_ne (.inr (by omega))).trans (h.c_ticket j hj)
  c_tier := fun j hj => (cell_set_ne (.inr (by omega))).trans (h.c_tier j hj)
  c_cohort := fun j hj => (cell_set_ne (.inr (by omega))).trans (h.c_cohort j hj)
  c_deadline := fun j hj => (cell_set_ne (.inr (by omega))).trans (h.c_deadline j hj)
  c_arrived := fun j hj => (cell_set_ne (.inr (by omega))).trans (h.c_arrived j hj)
  c_turns := fun j hj => by
    by_cases e : j = i
    · subst e; rw [cell_set_eq (h.c_turns j hj)]; simp
    · exact (cell_set_ne (.inr (by omega))).trans ((h.c_turns j hj).trans (by simp [upd_other e]))
  c_taken := fun j hj => (cell_set_ne (.inr (by omega))).trans (h.c_taken j hj)
  c_next := fun j hj => (cell_set_ne (.inr (by omega))).trans (h.c_next j hj)
  z_pb := fun j => (frozen_set _ _ _ _).trans (h.z_pb j)
  z_cb := fun j => (frozen_set _ _ _ _).trans (h.z_cb j)
  lt_pb := by rw [size_setCell]; exact h.lt_pb
  lt_cb := by rw [size_setCell]; exact h.lt_cb

theorem SlabAt.set_taken {w : World} {pb cb : Nat} {s : SlabM} (h : SlabAt w pb cb s) {i : Nat} (hi : i < s.n) (v : Bool) : SlabAt (w.setCell ⟨cb, i * 8 + 6, none⟩ (.bool (v))) pb cb { s with taken := upd s.taken i v } where
  ne_pb_cb := h.ne_pb_cb
  h_cells := (cell_set_ne (.inl h.ne_pb_cb)).trans h.h_cells
  h_freed := (cell_set_ne (.inl h.ne_pb_cb)).trans h.h_freed
  h_fresh := (cell_set_ne (.inl h.ne_pb_cb)).trans h.h_fresh
  h_len := (cell_set_ne (.inl h.ne_pb_cb)).trans h.h_len
  c_ticket := fun j hj => (cell_set_ne (.inr (by omega))).trans (h.c_ticket j hj)
  c_tier := fun j hj => (cell_set_ne (.inr (by omega))).trans (h.c_tier j hj)
  c_cohort := fun j hj => (cell_set_ne (.inr (by omega))).trans (h.c_cohort j hj)
  c_deadline := fun j hj => (cell_set_ne (.inr (by omega))).trans (h.c_deadline j hj)
  c_arrived := fun j hj => (cell_set_ne (.inr (by omega))).trans (h.c_arrived j hj)
  c_turns := fun j hj => (cell_set_ne (.inr (by omega))).trans (h.c_turns j hj)
  c_taken := fun j hj => by
    by_cases e : j = i
    · subst e; rw [cell_set_eq (h.c_taken j hj)]; simp
    · exact (cell_set_ne (.inr (by omega))).trans ((h.c_taken j hj).trans (by simp [upd_other e]))
  c_next := fun j hj => (cell_set_ne (.inr (by omega))).trans (h.c_next j hj)
  z_pb := fun j => (frozen_set _ _ _ _).trans (h.z_pb j)
  z_cb := fun j => (frozen_set _ _ _ _).trans (h.z_cb j)
  lt_pb := by rw [size_setCell]; exact h.lt_pb
  lt_cb := by rw [size_setCell]; exact h.lt_cb

theorem SlabAt.set_next {w : World} {pb cb : Nat} {s : SlabM} (h : SlabAt w pb cb s) {i : Nat} (hi : i < s.n) (v : Int) : SlabAt (w.setCell ⟨cb, i * 8 + 7, none⟩ (.int .i64 (v))) pb cb { s with next := upd s.next i v } where
  ne_pb_cb := h.ne_pb_cb
  h_cells := (cell_set_ne (.inl h.ne_pb_cb)).trans h.h_cells
  h_freed := (cell_set_ne (.inl h.ne_pb_cb)).trans h.h_freed
  h_fresh := (cell_set_ne (.inl h.ne_pb_cb)).trans h.h_fresh
  h_len := (cell_set_ne (.inl h.ne_pb_cb)).trans h.h_len
  c_ticket := fun j hj => (cell_set_ne (.inr (by omega))).trans (h.c_ticket j hj)
  c_tier := fun j hj => (cell_set_ne (.inr (by omega))).trans (h.c_tier j hj)
  c_cohort := fun j hj => (cell_set_ne (.inr (by omega))).trans (h.c_cohort j hj)
  c_deadline := fun j hj => (cell_set_ne (.inr (by omega))).trans (h.c_deadline j hj)
  c_arrived := fun j hj => (cell_set_ne (.inr (by omega))).trans (h.c_arrived j hj)
  c_turns := fun j hj => (cell_set_ne (.inr (by omega))).trans (h.c_turns j hj)
  c_taken := fun j hj => (cell_set_ne (.inr (by omega))).trans (h.c_taken j hj)
  c_next := fun j hj => by
    by_cases e : j = i
    · subst e; rw [cell_set_eq (h.c_next j hj)]; simp
    · exact (cell_set_ne (.inr (by omega))).trans ((h.c_next j hj).trans (by simp [upd_other e]))
  z_pb := fun j => (frozen_set _ _ _ _).trans (h.z_pb j)
  z_cb := fun j => (frozen_set _ _ _ _).trans (h.z_cb j)
  lt_pb := by rw [size_setCell]; exact h.lt_pb
  lt_cb := by rw [size_setCell]; exact h.lt_cb

theorem SlabAt.drew {w : World} {pb cb : Nat} {s : SlabM} (h : SlabAt w pb cb s) : SlabAt w.drew pb cb s := h.only (S := []) (Only.drew w) (by simp) (by simp)

structure RowsM where
  nr : Nat
  nk : Nat
  front : Nat → Int
  back : Nat → Int
  count : Nat → Int
  row : Nat → Int
  prev : Nat → Int
  next : Nat → Int

structure RowsAt (w : World) (pb rb kb : Nat) (s : RowsM) : Prop where
  ne_pb_rb : pb ≠ rb
  ne_pb_kb : pb ≠ kb
  ne_rb_kb : rb ≠ kb
  h_rows : w.cell? ⟨pb, 0, none⟩ = some (.slice (some ⟨rb, 0, none⟩) s.nr s.nr)
  h_links : w.cell? ⟨pb, 1, none⟩ = some (.slice (some ⟨kb, 0, none⟩) s.nk s.nk)
  c_front : ∀ i, i < s.nr → w.cell? ⟨rb, i * 3, none⟩ = some (.int .i64 (s.front i))
  c_back : ∀ i, i < s.nr → w.cell? ⟨rb, i * 3 + 1, none⟩ = some (.int .i64 (s.back i))
  c_count : ∀ i, i < s.nr → w.cell? ⟨rb, i * 3 + 2, none⟩ = some (.int .i64 (s.count i))
  c_row : ∀ i, i < s.nk → w.cell? ⟨kb, i * 3, none⟩ = some (.int .i64 (s.row i))
  c_prev : ∀ i, i < s.nk → w.cell? ⟨kb, i * 3 + 1, none⟩ = some (.int .i64 (s.prev i))
  c_next : ∀ i, i < s.nk → w.cell? ⟨kb, i * 3 + 2, none⟩ = some (.int .i64 (s.next i))
  z_pb : ∀ i, w.frozen? ⟨pb, i, none⟩ = false
  z_rb : ∀ i, w.frozen? ⟨rb, i, none⟩ = false
  z_kb : ∀ i, w.frozen? ⟨kb, i, none⟩ = false
  lt_pb : pb < w.heap.size
  lt_rb : rb < w.heap.size
  lt_kb : kb < w.heap.size

theorem RowsAt.only {S : List Nat} {w w' : World} {pb rb kb : Nat} {s : RowsM} (h : RowsAt w pb rb kb s) (ho : Only S w w') (kpb : pb ∉ S) (krb : rb ∉ S) (kkb : kb ∉ S) : RowsAt w' pb rb kb s where
  ne_pb_rb := h.ne_pb_rb
  ne_pb_kb := h.ne_pb_kb
  ne_rb_kb := h.ne_rb_kb
  h_rows := ho.cell h.h_rows kpb
  h_links := ho.cell h.h_links kpb
  c_front := fun i hi => ho.cell (h.c_front i hi) krb
  c_back := fun i hi => ho.cell (h.c_back i hi) krb
  c_count := fun i hi => ho.cell (h.c_count i hi) krb
  c_row := fun i hi => ho.cell (h.c_row i hi) kkb
  c_prev := fun i hi => ho.cell (h.c_prev i hi) kkb
  c_next := fun i hi => ho.cell (h.c_next i hi) kkb
  z_pb := fun i => (ho.frozen h.lt_pb kpb).trans (h.z_pb i)
  z_rb := fun i => (ho.frozen h.lt_rb krb).trans (h.z_rb i)
  z_kb := fun i => (ho.frozen h.lt_kb kkb).trans (h.z_kb i)
  lt_pb := Nat.lt_of_lt_of_le h.lt_pb ho.size
  lt_rb := Nat.lt_of_lt_of_le h.lt_rb ho.size
  lt_kb := Nat.lt_of_lt_of_le h.lt_kb ho.size

theorem RowsAt.set_front {w : World} {pb rb kb : Nat} {s : RowsM} (h : RowsAt w pb rb kb s) {i : Nat} (hi : i < s.nr) (v : Int) : RowsAt (w.setCell ⟨rb, i * 3, none⟩ (.int .i64 (v))) pb rb kb { s with front := upd s.front i v } where
  ne_pb_rb := h.ne_pb_rb
  ne_pb_kb := h.ne_pb_kb
  ne_rb_kb := h.ne_rb_kb
  h_rows := (cell_set_ne (.inl h.ne_pb_rb)).trans h.h_rows
  h_links := (cell_set_ne (.inl h.ne_pb_rb)).trans h.h_links
  c_front := fun j hj => by
    by_cases e : j = i
    · subst e; rw [cell_set_eq (h.c_front j hj)]; simp
    · exact (cell_set_ne (.inr (by omega))).trans ((h.c_front j hj).trans (by simp [upd_other e]))
  c_back := fun j hj => (cell_set_ne (.inr (by omega))).trans (h.c_back j hj)
  c_count := fun j hj => (cell_set_ne (.inr (by omega))).trans (h.c_count j hj)
  c_row := fun j hj => (cell_set_ne (.inl (Ne.symm h.ne_rb_kb))).trans (h.c_row j hj)
  c_prev := fun j hj => (cell_set_ne (.inl (Ne.symm h.ne_rb_kb))).trans (h.c_prev j hj)
  c_next := fun j hj => (cell_set_ne (.inl (Ne.symm h.ne_rb_kb))).trans (h.c_next j hj)
  z_pb := fun j => (frozen_set _ _ _ _).trans (h.z_pb j)
  z_rb := fun j => (frozen_set _ _ _ _).trans (h.z_rb j)
  z_kb := fun j => (frozen_set _ _ _ _).trans (h.z_kb j)
  lt_pb := by rw [size_setCell]; exact h.lt_pb
  lt_rb := by rw [size_setCell]; exact h.lt_rb
  lt_kb := by rw [size_setCell]; exact h.lt_kb

theorem RowsAt.set_back {w : World} {pb rb kb : Nat} {s : RowsM} (h : RowsAt w pb rb kb s) {i : Nat} (hi : i < s.nr) (v : Int) : RowsAt (w.setCell ⟨rb, i * 3 + 1, none⟩ (.int .i64 (v))) pb rb kb { s with back := upd s.back i v } where
  ne_pb_rb := h.ne_pb_rb
  ne_pb_kb := h.ne_pb_kb
  ne_rb_kb := h.ne_rb_kb
  h_rows := (cell_set_ne (.inl h.ne_pb_rb)).trans h.h_rows
  h_links := (cell_set_ne (.inl h.ne_pb_rb)).trans h.h_links
  c_front := fun j hj => (cell_set_ne (.inr (by omega))).trans (h.c_front j hj)
  c_back := fun j hj => by
    by_cases e : j = i
    · subst e; rw [cell_set_eq (h.c_back j hj)]; simp
    · exact (cell_set_ne (.inr (by omega))).trans ((h.c_back j hj).trans (by simp [upd_other e]))
  c_count := fun j hj => (cell_set_ne (.inr (by omega))).trans (h.c_count j hj)
  c_row := fun j hj => (cell_set_ne (.inl (Ne.symm h.ne_rb_kb))).trans (h.c_row j hj)
  c_prev := fun j hj => (cell_set_ne (.inl (Ne.symm h.ne_rb_kb))).trans (h.c_prev j hj)
  c_next := fun j hj => (cell_set_ne (.inl (Ne.symm h.ne_rb_kb))).trans (h.c_next j hj)
  z_pb := fun j => (frozen_set _ _ _ _).trans (h.z_pb j)
  z_rb := fun j => (frozen_set _ _ _ _).trans (h.z_rb j)
  z_kb := fun j => (frozen_set _ _ _ _).trans (h.z_kb j)
  lt_pb := by rw [size_setCell]; exact h.lt_pb
  lt_rb := by rw [size_setCell]; exact h.lt_rb
  lt_kb := by rw [size_setCell]; exact h.lt_kb

theorem RowsAt.set_count {w : World} {pb rb kb : Nat} {s : RowsM} (h : RowsAt w pb rb kb s) {i : Nat} (hi : i < s.nr) (v : Int) : RowsAt (w.setCell ⟨rb, i * 3 + 2, none⟩ (.int .i64 (v))) pb rb kb { s with count := upd s.count i v } where
  ne_pb_rb := h.ne_pb_rb
  ne_pb_kb := h.ne_pb_kb
  ne_rb_kb := h.ne_rb_kb
  h_rows := (cell_set_ne (.inl h.ne_pb_rb)).trans h.h_rows
  h_links := (cell_set_ne (.inl h.ne_pb_rb)).trans h.h_links
  c_front := fun j hj => (cell_set_ne (.inr (by omega))).trans (h.c_front j hj)
  c_back := fun j hj => (cell_set_ne (.inr (by omega))).trans (h.c_back j hj)
  c_count := fun j hj => by
    by_cases e : j = i
    · subst e; rw [cell_set_eq (h.c_count j hj)]; simp
    · exact (cell_set_ne (.inr (by omega))).trans ((h.c_count j hj).trans (by simp [upd_other e]))
  c_row := fun j hj => (cell_set_ne (.inl (Ne.symm h.ne_rb_kb))).trans (h.c_row j hj)
  c_prev := fun j hj => (cell_set_ne (.inl (Ne.symm h.ne_rb_kb))).trans (h.c_prev j hj)
  c_next := fun j hj => (cell_set_ne (.inl (Ne.symm h.ne_rb_kb))).trans (h.c_next j hj)
  z_pb := fun j => (frozen_set _ _ _ _).trans (h.z_pb j)
  z_rb := fun j => (frozen_set _ _ _ _).trans (h.z_rb j)
  z_kb := fun j => (frozen_set _ _ _ _).trans (h.z_kb j)
  lt_pb := by rw [size_setCell]; exact h.lt_pb
  lt_rb := by rw [size_setCell]; exact h.lt_rb
  lt_kb := by rw [size_setCell]; exact h.lt_kb

theorem RowsAt.set_row {w : World} {pb rb kb : Nat} {s : RowsM} (h : RowsAt w pb rb kb s) {i : Nat} (hi : i < s.nk) (v : Int) : RowsAt (w.setCell ⟨kb, i * 3, none⟩ (.int .i64 (v))) pb rb kb { s with row := upd s.row i v } where
  ne_pb_rb := h.ne_pb_rb
  ne_pb_kb := h.ne_pb_kb
  ne_rb_kb := h.ne_rb_kb
  h_rows := (cell_set_ne (.inl h.ne_pb_kb)).trans h.h_rows
  h_links := (cell_set_ne (.inl h.ne_pb_kb)).trans h.h_links
  c_front := fun j hj => (cell_set_ne (.inl h.ne_rb_kb)).trans (h.c_front j hj)
  c_back := fun j hj => (cell_set_ne (.inl h.ne_rb_kb)).trans (h.c_back j hj)
  c_count := fun j hj => (cell_set_ne (.inl h.ne_rb_kb)).trans (h.c_count j hj)
  c_row := fun j hj => by
    by_cases e : j = i
    · subst e; rw [cell_set_eq (h.c_row j hj)]; simp
    · exact (cell_set_ne (.inr (by omega))).trans ((h.c_row j hj).trans (by simp [upd_other e]))
  c_prev := fun j hj => (cell_set_ne (.inr (by omega))).trans (h.c_prev j hj)
  c_next := fun j hj => (cell_set_ne (.inr (by omega))).trans (h.c_next j hj)
  z_pb := fun j => (frozen_set _ _ _ _).trans (h.z_pb j)
  z_rb := fun j => (frozen_set _ _ _ _).trans (h.z_rb j)
  z_kb := fun j => (frozen_set _ _ _ _).trans (h.z_kb j)
  lt_pb := by rw [size_setCell]; exact h.lt_pb
  lt_rb := by rw [size_setCell]; exact h.lt_rb
  lt_kb := by rw [size_setCell]; exact h.lt_kb

theorem RowsAt.set_prev {w : World} {pb rb kb : Nat} {s : RowsM} (h : RowsAt w pb rb kb s) {i : Nat} (hi : i < s.nk) (v : Int) : RowsAt (w.setCell ⟨kb, i * 3 + 1, none⟩ (.int .i64 (v))) pb rb kb { s with prev := upd s.prev i v } where
  ne_pb_rb := h.ne_pb_rb
  ne_pb_kb := h.ne_pb_kb
  ne_rb_kb := h.ne_rb_kb
  h_rows := (cell_set_ne (.inl h.ne_pb_kb)).trans h.h_rows
  h_links := (cell_set_ne (.inl h.ne_pb_kb)).trans h.h_links
  c_front := fun j hj => (cell_set_ne (.inl h.ne_rb_kb)).trans (h.c_front j hj)
  c_back := fun j hj => (cell_set_ne (.inl h.ne_rb_kb)).trans (h.c_back j hj)
  c_count := fun j hj => (cell_set_ne (.inl h.ne_rb_kb)).trans (h.c_count j hj)
  c_row := fun j hj => (cell_set_ne (.inr (by omega))).trans (h.c_row j hj)
  c_prev := fun j hj => by
    by_cases e : j = i
    · subst e; rw [cell_set_eq (h.c_prev j hj)]; simp
    · exact (cell_set_ne (.inr (by omega))).trans ((h.c_prev j hj).trans (by simp [upd_other e]))
  c_next := fun j hj => (cell_set_ne (.inr (by omega))).trans (h.c_next j hj)
  z_pb := fun j => (frozen_set _ _ _ _).trans (h.z_pb j)
  z_rb := fun j => (frozen_set _ _ _ _).trans (h.z_rb j)
  z_kb := fun j => (frozen_set _ _ _ _).trans (h.z_kb j)
  lt_pb := by rw [size_setCell]; exact h.lt_pb
  lt_rb := by rw [size_setCell]; exact h.lt_rb
  lt_kb := by rw [size_setCell]; exact h.lt_kb

theorem RowsAt.set_next {w : World} {pb rb kb : Nat} {s : RowsM} (h : RowsAt w pb rb kb s) {i : Nat} (hi : i < s.nk) (v : Int) : RowsAt (w.setCell ⟨kb, i * 3 + 2, none⟩ (.int .i64 (v))) pb rb kb { s with next := upd s.next i v } where
  ne_pb_rb := h.ne_pb_rb
  ne_pb_kb := h.ne_pb_kb
  ne_rb_kb := h.ne_rb_kb
  h_rows := (cell_set_ne (.inl h.ne_pb_kb)).trans h.h_rows
  h_links := (cell_set_ne (.inl h.ne_pb_kb)).trans h.h_links
  c_front := fun j hj => (cell_set_ne (.inl h.ne_rb_kb)).trans (h.c_front j hj)
  c_back := fun j hj => (cell_set_ne (.inl h.ne_rb_kb)).trans (h.c_back j hj)
  c_count := fun j hj => (cell_set_ne (.inl h.ne_rb_kb)).trans (h.c_count j hj)
  c_row := fun j hj => (cell_set_ne (.inr (by omega))).trans (h.c_row j hj)
  c_prev := fun j hj => (cell_set_ne (.inr (by omega))).trans (h.c_prev j hj)
  c_next := fun j hj => by
    by_cases e : j = i
    · subst e; rw [cell_set_eq (h.c_next j hj)]; simp
    · exact (cell_set_ne (.inr (by omega))).trans ((h.c_next j hj).trans (by simp [upd_other e]))
  z_pb := fun j => (frozen_set _ _ _ _).trans (h.z_pb j)
  z_rb := fun j => (frozen_set _ _ _ _).trans (h.z_rb j)
  z_kb := fun j => (frozen_set _ _ _ _).trans (h.z_kb j)
  lt_pb := by rw [size_setCell]; exact h.lt_pb
  lt_rb := by rw [size_setCell]; exact h.lt_rb
  lt_kb := by rw [size_setCell]; exact h.lt_kb

theorem RowsAt.drew {w : World} {pb rb kb : Nat} {s : RowsM} (h : RowsAt w pb rb kb s) : RowsAt w.drew pb rb kb s := h.only (S := []) (Only.drew w) (by simp) (by simp) (by simp)

structure RingM where
  n : Nat
  tail : Int
  head : Int
  number : Nat → Int
  value : Nat → Int

structure RingAt (w : World) (pb sb : Nat) (s : RingM) : Prop where
  ne_pb_sb : pb ≠ sb
  h_tail : w.cell? ⟨pb, 0, none⟩ = some (.int .u64 (s.tail))
  h_head : w.cell? ⟨pb, 1, none⟩ = some (.int .u64 (s.head))
  h_slots : w.cell? ⟨pb, 2, none⟩ = some (.slice (some ⟨sb, 0, none⟩) s.n s.n)
  c_number : ∀ i, i < s.n → w.cell? ⟨sb, i * 2, none⟩ = some (.int .u64 (s.number i))
  c_value : ∀ i, i < s.n → w.cell? ⟨sb, i * 2 + 1, none⟩ = some (.int .u64 (s.value i))
  z_pb : ∀ i, w.frozen? ⟨pb, i, none⟩ = false
  z_sb : ∀ i, w.frozen? ⟨sb, i, none⟩ = false
  lt_pb : pb < w.heap.size
  lt_sb : sb < w.heap.size

theorem RingAt.only {S : List Nat} {w w' : World} {pb sb : Nat} {s : RingM} (h : RingAt w pb sb s) (ho : Only S w w') (kpb : pb ∉ S) (ksb : sb ∉ S) : RingAt w' pb sb s where
  ne_pb_sb := h.ne_pb_sb
  h_tail := ho.cell h.h_tail kpb
  h_head := ho.cell h.h_head kpb
  h_slots := ho.cell h.h_slots kpb
  c_number := fun i hi => ho.cell (h.c_number i hi) ksb
  c_value := fun i hi => ho.cell (h.c_value i hi) ksb
  z_pb := fun i => (ho.frozen h.lt_pb kpb).trans (h.z_pb i)
  z_sb := fun i => (ho.frozen h.lt_sb ksb).trans (h.z_sb i)
  lt_pb := Nat.lt_of_lt_of_le h.lt_pb ho.size
  lt_sb := Nat.lt_of_lt_of_le h.lt_sb ho.size

theorem RingAt.set_tail {w : World} {pb sb : Nat} {s : RingM} (h : RingAt w pb sb s) (v : Int) : RingAt (w.setCell ⟨pb, 0, none⟩ (.int .u64 (v))) pb sb { s with tail := v } where
  ne_pb_sb := h.ne_pb_sb
  h_tail := cell_set_eq h.h_tail
  h_head := (cell_set_ne (.inr (by omega))).trans h.h_head
  h_slots := (cell_set_ne (.inr (by omega))).trans h.h_slots
  c_number := fun j hj => (cell_set_ne (.inl (Ne.symm h.ne_pb_sb))).trans (h.c_number j hj)
  c_value := fun j hj => (cell_set_ne (.inl (Ne.symm h.ne_pb_sb))).trans (h.c_value j hj)
  z_pb := fun j => (frozen_set _ _ _ _).trans (h.z_pb j)
  z_sb := fun j => (frozen_set _ _ _ _).trans (h.z_sb j)
  lt_pb := by rw [size_setCell]; exact h.lt_pb
  lt_sb := by rw [size_setCell]; exact h.lt_sb

theorem RingAt.set_head {w : World} {pb sb : Nat} {s : RingM} (h : RingAt w pb sb s) (v : Int) : RingAt (w.setCell ⟨pb, 1, none⟩ (.int .u64 (v))) pb sb { s with head := v } where
  ne_pb_sb := h.ne_pb_sb
  h_tail := (cell_set_ne (.inr (by omega))).trans h.h_tail
  h_head := cell_set_eq h.h_head
  h_slots := (cell_set_ne (.inr (by omega))).trans h.h_slots
  c_number := fun j hj => (cell_set_ne (.inl (Ne.symm h.ne_pb_sb))).trans (h.c_number j hj)
  c_value := fun j hj => (cell_set_ne (.inl (Ne.symm h.ne_pb_sb))).trans (h.c_value j hj)
  z_pb := fun j => (frozen_set _ _ _ _).trans (h.z_pb j)
  z_sb := fun j => (frozen_set _ _ _ _).trans (h.z_sb j)
  lt_pb := by rw [size_setCell]; exact h.lt_pb
  lt_sb := by rw [size_setCell]; exact h.lt_sb

theorem RingAt.set_number {w : World} {pb sb : Nat} {s : RingM} (h : RingAt w pb sb s) {i : Nat} (hi : i < s.n) (v : Int) : RingAt (w.setCell ⟨sb, i * 2, none⟩ (.int .u64 (v))) pb sb { s with number := upd s.number i v } where
  ne_pb_sb := h.ne_pb_sb
  h_tail := (cell_set_ne (.inl h.ne_pb_sb)).trans h.h_tail
  h_head := (cell_set_ne (.inl h.ne_pb_sb)).trans h.h_head
  h_slots := (cell_set_ne (.inl h.ne_pb_sb)).trans h.h_slots
  c_number := fun j hj => by
    by_cases e : j = i
    · subst e; rw [cell_set_eq (h.c_number j hj)]; simp
    · exact (cell_set_ne (.inr (by omega))).trans ((h.c_number j hj).trans (by simp [upd_other e]))
  c_value := fun j hj => (cell_set_ne (.inr (by omega))).trans (h.c_value j hj)
  z_pb := fun j => (frozen_set _ _ _ _).trans (h.z_pb j)
  z_sb := fun j => (frozen_set _ _ _ _).trans (h.z_sb j)
  lt_pb := by rw [size_setCell]; exact h.lt_pb
  lt_sb := by rw [size_setCell]; exact h.lt_sb

theorem RingAt.set_value {w : World} {pb sb : Nat} {s : RingM} (h : RingAt w pb sb s) {i : Nat} (hi : i < s.n) (v : Int) : RingAt (w.setCell ⟨sb, i * 2 + 1, none⟩ (.int .u64 (v))) pb sb { s with value := upd s.value i v } where
  ne_pb_sb := h.ne_pb_sb
  h_tail := (cell_set_ne (.inl h.ne_pb_sb)).trans h.h_tail
  h_head := (cell_set_ne (.inl h.ne_pb_sb)).trans h.h_head
  h_slots := (cell_set_ne (.inl h.ne_pb_sb)).trans h.h_slots
  c_number := fun j hj => (cell_set_ne (.inr (by omega))).trans (h.c_number j hj)
  c_value := fun j hj => by
    by_cases e : j = i
    · subst e; rw [cell_set_eq (h.c_value j hj)]; simp
    · exact (cell_set_ne (.inr (by omega))).trans ((h.c_value j hj).trans (by simp [upd_other e]))
  z_pb := fun j => (frozen_set _ _ _ _).trans (h.z_pb j)
  z_sb := fun j => (frozen_set _ _ _ _).trans (h.z_sb j)
  lt_pb := by rw [size_setCell]; exact h.lt_pb
  lt_sb := by rw [size_setCell]; exact h.lt_sb

theorem RingAt.drew {w : World} {pb sb : Nat} {s : RingM} (h : RingAt w pb sb s) : RingAt w.drew pb sb s := h.only (S := []) (Only.drew w) (by simp) (by simp)

structure BoxM where
  state : Int
  kind : Int
  tier : Int
  cohort : Int
  num : Int
  answer : Int
  ticket : Int
  rtier : Int
  rcohort : Int
  sojourn : Int

structure BoxAt (w : World) (pb : Nat) (s : BoxM) : Prop where
  h_state : w.cell? ⟨pb, 0, none⟩ = some (.int .i32 (s.state))
  h_kind : w.cell? ⟨pb, 1, none⟩ = some (.int .u8 (s.kind))
  h_tier : w.cell? ⟨pb, 2, none⟩ = some (.int .i64 (s.tier))
  h_cohort : w.cell? ⟨pb, 3, none⟩ = some (.int .i64 (s.cohort))
  h_num : w.cell? ⟨pb, 4, none⟩ = some (.int .i64 (s.num))
  h_answer : w.cell? ⟨pb, 5, none⟩ = some (.int .u8 (s.answer))
  h_ticket : w.cell? ⟨pb, 6, none⟩ = some (.int .u64 (s.ticket))
  h_rtier : w.cell? ⟨pb, 7, none⟩ = some (.int .i64 (s.rtier))
  h_rcohort : w.cell? ⟨pb, 8, none⟩ = some (.int .i64 (s.rcohort))
  h_sojourn : w.cell? ⟨pb, 9, none⟩ = some (.int .i64 (s.sojourn))
  z_pb : ∀ i, w.frozen? ⟨pb, i, none⟩ = false
  lt_pb : pb < w.heap.size

theorem BoxAt.only {S : List Nat} {w w' : World} {pb : Nat} {s : BoxM} (h : BoxAt w pb s) (ho : Only S w w') (kpb : pb ∉ S) : BoxAt w' pb s where
  h_state := ho.cell h.h_state kpb
  h_kind := ho.cell h.h_kind kpb
  h_tier := ho.cell h.h_tier kpb
  h_cohort := ho.cell h.h_cohort kpb
  h_num := ho.cell h.h_num kpb
  h_answer := ho.cell h.h_answer kpb
  h_ticket := ho.cell h.h_ticket kpb
  h_rtier := ho.cell h.h_rtier kpb
  h_rcohort := ho.cell h.h_rcohort kpb
  h_sojourn := ho.cell h.h_sojourn kpb
  z_pb := fun i => (ho.frozen h.lt_pb kpb).trans (h.z_pb i)
  lt_pb := Nat.lt_of_lt_of_le h.lt_pb ho.size

theorem BoxAt.set_state {w : World} {pb : Nat} {s : BoxM} (h : BoxAt w pb s) (v : Int) : BoxAt (w.setCell ⟨pb, 0, none⟩ (.int .i32 (v))) pb { s with state := v } where
  h_state := cell_set_eq h.h_state
  h_kind := (cell_set_ne (.inr (by omega))).trans h.h_kind
  h_tier := (cell_set_ne (.inr (by omega))).trans h.h_tier
  h_cohort := (cell_set_ne (.inr (by omega))).trans h.h_cohort
  h_num := (cell_set_ne (.inr (by omega))).trans h.h_num
  h_answer := (cell_set_ne (.inr (by omega))).trans h.h_answer
  h_ticket := (cell_set_ne (.inr (by omega))).trans h.h_ticket
  h_rtier := (cell_set_ne (.inr (by omega))).trans h.h_rtier
  h_rcohort := (cell_set_ne (.inr (by omega))).trans h.h_rcohort
  h_sojourn := (cell_set_ne (.inr (by omega))).trans h.h_sojourn
  z_pb := fun j => (frozen_set _ _ _ _).trans (h.z_pb j)
  lt_pb := by rw [size_setCell]; exact h.lt_pb

theorem BoxAt.set_kind {w : World} {pb : Nat} {s : BoxM} (h : BoxAt w pb s) (v : Int) : BoxAt (w.setCell ⟨pb, 1, none⟩ (.int .u8 (v))) pb { s with kind := v } where
  h_state := (cell_set_ne (.inr (by omega))).trans h.h_state
  h_kind := cell_set_eq h.h_kind
  h_tier := (cell_set_ne (.inr (by omega))).trans h.h_tier
  h_cohort := (cell_set_ne (.inr (by omega))).trans h.h_cohort
  h_num := (cell_set_ne (.inr (by omega))).trans h.h_num
  h_answer := (cell_set_ne (.inr (by omega))).trans h.h_answer
  h_ticket := (cell_set_ne (.inr (by omega))).trans h.h_ticket
  h_rtier := (cell_set_ne (.inr (by omega))).trans h.h_rtier
  h_rcohort := (cell_set_ne (.inr (by omega))).trans h.h_rcohort
  h_sojourn := (cell_set_ne (.inr (by omega))).trans h.h_sojourn
  z_pb := fun j => (frozen_set _ _ _ _).trans (h.z_pb j)
  lt_pb := by rw [size_setCell]; exact h.lt_pb

theorem BoxAt.set_tier {w : World} {pb : Nat} {s : BoxM} (h : BoxAt w pb s) (v : Int) : BoxAt (w.setCell ⟨pb, 2, none⟩ (.int .i64 (v))) pb { s with tier := v } where
  h_state := (cell_set_ne (.inr (by omega))).trans h.h_state
  h_kind := (cell_set_ne (.inr (by omega))).trans h.h_kind
  h_tier := cell_set_eq h.h_tier
  h_cohort := (cell_set_ne (.inr (by omega))).trans h.h_cohort
  h_num := (cell_set_ne (.inr (by omega))).trans h.h_num
  h_answer := (cell_set_ne (.inr (by omega))).trans h.h_answer
  h_ticket := (cell_set_ne (.inr (by omega))).trans h.h_ticket
  h_rtier := (cell_set_ne (.inr (by omega))).trans h.h_rtier
  h_rcohort := (cell_set_ne (.inr (by omega))).trans h.h_rcohort
  h_sojourn := (cell_set_ne (.inr (by omega))).trans h.h_sojourn
  z_pb := fun j => (frozen_set _ _ _ _).trans (h.z_pb j)
  lt_pb := by rw [size_setCell]; exact h.lt_pb

theorem BoxAt.set_cohort {w : World} {pb : Nat} {s : BoxM} (h : BoxAt w pb s) (v : Int) : BoxAt (w.setCell ⟨pb, 3, none⟩ (.int .i64 (v))) pb { s with cohort := v } where
  h_state := (cell_set_ne (.inr (by omega))).trans h.h_state
  h_kind := (cell_set_ne (.inr (by omega))).trans h.h_kind
  h_tier := (cell_set_ne (.inr (by omega))).trans h.h_tier
  h_cohort := cell_set_eq h.h_cohort
  h_num := (cell_set_ne (.inr (by omega))).trans h.h_num
  h_answer := (cell_set_ne (.inr (by omega))).trans h.h_answer
  h_ticket := (cell_set_ne (.inr (by omega))).trans h.h_ticket
  h_rtier := (cell_set_ne (.inr (by omega))).trans h.h_rtier
  h_rcohort := (cell_set_ne (.inr (by omega))).trans h.h_rcohort
  h_sojourn := (cell_set_ne (.inr (by omega))).trans h.h_sojourn
  z_pb := fun j => (frozen_set _ _ _ _).trans (h.z_pb j)
  lt_pb := by rw [size_setCell]; exact h.lt_pb

theorem BoxAt.set_num {w : World} {pb : Nat} {s : BoxM} (h : BoxAt w pb s) (v : Int) : BoxAt (w.setCell ⟨pb, 4, none⟩ (.int .i64 (v))) pb { s with num := v } where
  h_state := (cell_set_ne (.inr (by omega))).trans h.h_state
  h_kind := (cell_set_ne (.inr (by omega))).trans h.h_kind
  h_tier := (cell_set_ne (.inr (by omega))).trans h.h_tier
  h_cohort := (cell_set_ne (.inr (by omega))).trans h.h_cohort
  h_num := cell_set_eq h.h_num
  h_answer := (cell_set_ne (.inr (by omega))).trans h.h_answer
  h_ticket := (cell_set_ne (.inr (by omega))).trans h.h_ticket
  h_rtier := (cell_set_ne (.inr (by omega))).trans h.h_rtier
  h_rcohort := (cell_set_ne (.inr (by omega))).trans h.h_rcohort
  h_sojourn := (cell_set_ne (.inr (by omega))).trans h.h_sojourn
  z_pb := fun j => (frozen_set _ _ _ _).trans (h.z_pb j)
  lt_pb := by rw [size_setCell]; exact h.lt_pb

theorem BoxAt.set_answer {w : World} {pb : Nat} {s : BoxM} (h : BoxAt w pb s) (v : Int) : BoxAt (w.setCell ⟨pb, 5, none⟩ (.int .u8 (v))) pb { s with answer := v } where
  h_state := (cell_set_ne (.inr (by omega))).trans h.h_state
  h_kind := (cell_set_ne (.inr (by omega))).trans h.h_kind
  h_tier := (cell_set_ne (.inr (by omega))).trans h.h_tier
  h_cohort := (cell_set_ne (.inr (by omega))).trans h.h_cohort
  h_num := (cell_set_ne (.inr (by omega))).trans h.h_num
  h_answer := cell_set_eq h.h_answer
  h_ticket := (cell_set_ne (.inr (by omega))).trans h.h_ticket
  h_rtier := (cell_set_ne (.inr (by omega))).trans h.h_rtier
  h_rcohort := (cell_set_ne (.inr (by omega))).trans h.h_rcohort
  h_sojourn := (cell_set_ne (.inr (by omega))).trans h.h_sojourn
  z_pb := fun j => (frozen_set _ _ _ _).trans (h.z_pb j)
  lt_pb := by rw [size_setCell]; exact h.lt_pb

theorem BoxAt.set_ticket {w : World} {pb : Nat} {s : BoxM} (h : BoxAt w pb s) (v : Int) : BoxAt (w.setCell ⟨pb, 6, none⟩ (.int .u64 (v))) pb { s with ticket := v } where
  h_state := (cell_set_ne (.inr (by omega))).trans h.h_state
  h_kind := (cell_set_ne (.inr (by omega))).trans h.h_kind
  h_tier := (cell_set_ne (.inr (by omega))).trans h.h_tier
  h_cohort := (cell_set_ne (.inr (by omega))).trans h.h_cohort
  h_num := (cell_set_ne (.inr (by omega))).trans h.h_num
  h_answer := (cell_set_ne (.inr (by omega))).trans h.h_answer
  h_ticket := cell_set_eq h.h_ticket
  h_rtier := (cell_set_ne (.inr (by omega))).trans h.h_rtier
  h_rcohort := (cell_set_ne (.inr (by omega))).trans h.h_rcohort
  h_sojourn := (cell_set_ne (.inr (by omega))).trans h.h_sojourn
  z_pb := fun j => (frozen_set _ _ _ _).trans (h.z_pb j)
  lt_pb := by rw [size_setCell]; exact h.lt_pb

theorem BoxAt.set_rtier {w : World} {pb : Nat} {s : BoxM} (h : BoxAt w pb s) (v : Int) : BoxAt (w.setCell ⟨pb, 7, none⟩ (.int .i64 (v))) pb { s with rtier := v } where
  h_state := (cell_set_ne (.inr (by omega))).trans h.h_state
  h_kind := (cell_set_ne (.inr (by omega))).trans h.h_kind
  h_tier := (cell_set_ne (.inr (by omega))).trans h.h_tier
  h_cohort := (cell_set_ne (.inr (by omega))).trans h.h_cohort
  h_num := (cell_set_ne (.inr (by omega))).trans h.h_num
  h_answer := (cell_set_ne (.inr (by omega))).trans h.h_answer
  h_ticket := (cell_set_ne (.inr (by omega))).trans h.h_ticket
  h_rtier := cell_set_eq h.h_rtier
  h_rcohort := (cell_set_ne (.inr (by omega))).trans h.h_rcohort
  h_sojourn := (cell_set_ne (.inr (by omega))).trans h.h_sojourn
  z_pb := fun j => (frozen_set _ _ _ _).trans (h.z_pb j)
  lt_pb := by rw [size_setCell]; exact h.lt_pb

theorem BoxAt.set_rcohort {w : World} {pb : Nat} {s : BoxM} (h : BoxAt w pb s) (v : Int) : BoxAt (w.setCell ⟨pb, 8, none⟩ (.int .i64 (v))) pb { s with rcohort := v } where
  h_state := (cell_set_ne (.inr (by omega))).trans h.h_state
  h_kind := (cell_set_ne (.inr (by omega))).trans h.h_kind
  h_tier := (cell_set_ne (.inr (by omega))).trans h.h_tier
  h_cohort := (cell_set_ne (.inr (by omega))).trans h.h_cohort
  h_num := (cell_set_ne (.inr (by omega))).trans h.h_num
  h_answer := (cell_set_ne (.inr (by omega))).trans h.h_answer
  h_ticket := (cell_set_ne (.inr (by omega))).trans h.h_ticket
  h_rtier := (cell_set_ne (.inr (by omega))).trans h.h_rtier
  h_rcohort := cell_set_eq h.h_rcohort
  h_sojourn := (cell_set_ne (.inr (by omega))).trans h.h_sojourn
  z_pb := fun j => (frozen_set _ _ _ _).trans (h.z_pb j)
  lt_pb := by rw [size_setCell]; exact h.lt_pb

theorem BoxAt.set_sojourn {w : World} {pb : Nat} {s : BoxM} (h : BoxAt w pb s) (v : Int) : BoxAt (w.setCell ⟨pb, 9, none⟩ (.int .i64 (v))) pb { s with sojourn := v } where
  h_state := (cell_set_ne (.inr (by omega))).trans h.h_state
  h_kind := (cell_set_ne (.inr (by omega))).trans h.h_kind
  h_tier := (cell_set_ne (.inr (by omega))).trans h.h_tier
  h_cohort := (cell_set_ne (.inr (by omega))).trans h.h_cohort
  h_num := (cell_set_ne (.inr (by omega))).trans h.h_num
  h_answer := (cell_set_ne (.inr (by omega))).trans h.h_answer
  h_ticket := (cell_set_ne (.inr (by omega))).trans h.h_ticket
  h_rtier := (cell_set_ne (.inr (by omega))).trans h.h_rtier
  h_rcohort := (cell_set_ne (.inr (by omega))).trans h.h_rcohort
  h_sojourn := cell_set_eq h.h_sojourn
  z_pb := fun j => (frozen_set _ _ _ _).trans (h.z_pb j)
  lt_pb := by rw [size_setCell]; exact h.lt_pb

theorem BoxAt.drew {w : World} {pb : Nat} {s : BoxM} (h : BoxAt w pb s) : BoxAt w.drew pb s := h.only (S := []) (Only.drew w) (by simp)

structure LockM where
  owner : Int

structure LockAt (w : World) (pb : Nat) (s : LockM) : Prop where
  h_owner : w.cell? ⟨pb, 0, none⟩ = some (.int .i64 (s.owner))
  z_pb : ∀ i, w.frozen? ⟨pb, i, none⟩ = false
  lt_pb : pb < w.heap.size

theorem LockAt.only {S : List Nat} {w w' : World} {pb : Nat} {s : LockM} (h : LockAt w pb s) (ho : Only S w w') (kpb : pb ∉ S) : LockAt w' pb s where
  h_owner := ho.cell h.h_owner kpb
  z_pb := fun i => (ho.frozen h.lt_pb kpb).trans (h.z_pb i)
  lt_pb := Nat.lt_of_lt_of_le h.lt_pb ho.size

theorem LockAt.set_owner {w : World} {pb : Nat} {s : LockM} (h : LockAt w pb s) (v : Int) : LockAt (w.setCell ⟨pb, 0, none⟩ (.int .i64 (v))) pb { s with owner := v } where
  h_owner := cell_set_eq h.h_owner
  z_pb := fun j => (frozen_set _ _ _ _).trans (h.z_pb j)
  lt_pb := by rw [size_setCell]; exact h.lt_pb

theorem LockAt.drew {w : World} {pb : Nat} {s : LockM} (h : LockAt w pb s) : LockAt w.drew pb s := h.only (S := []) (Only.drew w) (by simp)

structure ActM where
  r : Option Addr
  pops : Bool
  next : Int
  at_ : Int
  place : Int
  value : Int
  well : Bool

structure ActAt (w : World) (pb : Nat) (s : ActM) : Prop where
  h_r : w.cell? ⟨pb, 0, none⟩ = some (.pointer (s.r))
  h_pops : w.cell? ⟨pb, 1, none⟩ = some (.bool (s.pops))
  h_next : w.cell? ⟨pb, 2, none⟩ = some (.int .i64 (s.next))
  h_at_ : w.cell? ⟨pb, 3, none⟩ = some (.int .u64 (s.at_))
  h_place : w.cell? ⟨pb, 4, none⟩ = some (.int .u64 (s.place))
  h_value : w.cell? ⟨pb, 5, none⟩ = some (.int .u64 (s.value))
  h_well : w.cell? ⟨pb, 6, none⟩ = some (.bool (s.well))
  z_pb : ∀ i, w.frozen? ⟨pb, i, none⟩ = false
  lt_pb : pb < w.heap.size

theorem ActAt.only {S : List Nat} {w w' : World} {pb : Nat} {s : ActM} (h : ActAt w pb s) (ho : Only S w w') (kpb : pb ∉ S) : ActAt w' pb s where
  h_r := ho.cell h.h_r kpb
  h_pops := ho.cell h.h_pops kpb
  h_next := ho.cell h.h_next kpb
  h_at_ := ho.cell h.h_at_ kpb
  h_place := ho.cell h.h_place kpb
  h_value := ho.cell h.h_value kpb
  h_well := ho.cell h.h_well kpb
  z_pb := fun i => (ho.frozen h.lt_pb kpb).trans (h.z_pb i)
  lt_pb := Nat.lt_of_lt_of_le h.lt_pb ho.size

theorem ActAt.set_next {w : World} {pb : Nat} {s : ActM} (h : ActAt w pb s) (v : Int) : ActAt (w.setCell ⟨pb, 2, none⟩ (.int .i64 (v))) pb { s with next := v } where
  h_r := (cell_set_ne (.inr (by omega))).trans h.h_r
  h_pops := (cell_set_ne (.inr (by omega))).trans h.h_pops
  h_next := cell_set_eq h.h_next
  h_at_ := (cell_set_ne (.inr (by omega))).trans h.h_at_
  h_place := (cell_set_ne (.inr (by omega))).trans h.h_place
  h_value := (cell_set_ne (.inr (by omega))).trans h.h_value
  h_well := (cell_set_ne (.inr (by omega))).trans h.h_well
  z_pb := fun j => (frozen_set _ _ _ _).trans (h.z_pb j)
  lt_pb := by rw [size_setCell]; exact h.lt_pb

theorem ActAt.set_at_ {w : World} {pb : Nat} {s : ActM} (h : ActAt w pb s) (v : Int) : ActAt (w.setCell ⟨pb, 3, none⟩ (.int .u64 (v))) pb { s with at_ := v } where
  h_r := (cell_set_ne (.inr (by omega))).trans h.h_r
  h_pops := (cell_set_ne (.inr (by omega))).trans h.h_pops
  h_next := (cell_set_ne (.inr (by omega))).trans h.h_next
  h_at_ := cell_set_eq h.h_at_
  h_place := (cell_set_ne (.inr (by omega))).trans h.h_place
  h_value := (cell_set_ne (.inr (by omega))).trans h.h_value
  h_well := (cell_set_ne (.inr (by omega))).trans h.h_well
  z_pb := fun j => (frozen_set _ _ _ _).trans (h.z_pb j)
  lt_pb := by rw [size_setCell]; exact h.lt_pb

theorem ActAt.set_place {w : World} {pb : Nat} {s : ActM} (h : ActAt w pb s) (v : Int) : ActAt (w.setCell ⟨pb, 4, none⟩ (.int .u64 (v))) pb { s with place := v } where
  h_r := (cell_set_ne (.inr (by omega))).trans h.h_r
  h_pops := (cell_set_ne (.inr (by omega))).trans h.h_pops
  h_next := (cell_set_ne (.inr (by omega))).trans h.h_next
  h_at_ := (cell_set_ne (.inr (by omega))).trans h.h_at_
  h_place := cell_set_eq h.h_place
  h_value := (cell_set_ne (.inr (by omega))).trans h.h_value
  h_well := (cell_set_ne (.inr (by omega))).trans h.h_well
  z_pb := fun j => (frozen_set _ _ _ _).trans (h.z_pb j)
  lt_pb := by rw [size_setCell]; exact h.lt_pb

theorem ActAt.set_value {w : World} {pb : Nat} {s : ActM} (h : ActAt w pb s) (v : Int) : ActAt (w.setCell ⟨pb, 5, none⟩ (.int .u64 (v))) pb { s with value := v } where
  h_r := (cell_set_ne (.inr (by omega))).trans h.h_r
  h_pops := (cell_set_ne (.inr (by omega))).trans h.h_pops
  h_next := (cell_set_ne (.inr (by omega))).trans h.h_next
  h_at_ := (cell_set_ne (.inr (by omega))).trans h.h_at_
  h_place := (cell_set_ne (.inr (by omega))).trans h.h_place
  h_value := cell_set_eq h.h_value
  h_well := (cell_set_ne (.inr (by omega))).trans h.h_well
  z_pb := fun j => (frozen_set _ _ _ _).trans (h.z_pb j)
  lt_pb := by rw [size_setCell]; exact h.lt_pb

theorem ActAt.set_well {w : World} {pb : Nat} {s : ActM} (h : ActAt w pb s) (v : Bool) : ActAt (w.setCell ⟨pb, 6, none⟩ (.bool (v))) pb { s with well := v } where
  h_r := (cell_set_ne (.inr (by omega))).trans h.h_r
  h_pops := (cell_set_ne (.inr (by omega))).trans h.h_pops
  h_next := (cell_set_ne (.inr (by omega))).trans h.h_next
  h_at_ := (cell_set_ne (.inr (by omega))).trans h.h_at_
  h_place := (cell_set_ne (.inr (by omega))).trans h.h_place
  h_value := (cell_set_ne (.inr (by omega))).trans h.h_value
  h_well := cell_set_eq h.h_well
  z_pb := fun j => (frozen_set _ _ _ _).trans (h.z_pb j)
  lt_pb := by rw [size_setCell]; exact h.lt_pb

theorem ActAt.drew {w : World} {pb : Nat} {s : ActM} (h : ActAt w pb s) : ActAt w.drew pb s := h.only (S := []) (Only.drew w) (by simp)

end Go.M
