/- Proofs about the front of the overload controller, part 4: Mem Mem2 F0 F1 F2. -/
import Derived.Test.YtdodcfbmpmapmaaGreatW03
import Derived.Laws.MakeOwn
import Derived.Maps.AppendAt
import Derived.IntWalk
set_option linter.all false
set_option linter.constructorNameAsVariable false
set_option linter.unusedVariables false
/- Memory: blocks of cells as functions; what a step leaves alone. -/
namespace Go.Eng
open Go Go.RowKit

def upd {α : Type} (f : Nat → α) (i : Nat) (v : α) : Nat → α := fun j => if j = i then v else f j
@[simp] theorem upd_same {α : Type} (f : Nat → α) (i : Nat) (v : α) : upd f i v i = v := by simp [upd]
theorem upd_other {α : Type} {f : Nat → α} {i j : Nat} {v : α} (h : j ≠ i) : upd f i v j = f j := by simp [upd, h]
theorem upd_apply {α : Type} (f : Nat → α) (i : Nat) (v : α) (j : Nat) : upd f i v j = if j = i then v else f j := rfl

/-- block b holds n cells, f of them -/
def Blk (w : World) (b n : Nat) (f : Nat → Value) : Prop :=
  ∃ (arr : Array Value) (t : TypeId), w.heap[b]? = some (.cells arr t (0, 0)) ∧ arr.size = n ∧ ∀ i, i < n → arr[i]? = some (f i)

variable {w w' : World} {b n : Nat} {f : Nat → Value}

theorem Blk.cell (h : Blk w b n f) {i : Nat} (hi : i < n) : w.cell? ⟨b, i, none⟩ = some (f i) := by
  obtain ⟨arr, t, h1, h2, h3⟩ := h
  simp [World.cell?, h1, h3 i hi]

theorem Blk.frozen (h : Blk w b n f) (i : Nat) : w.frozen? ⟨b, i, none⟩ = false := by
  obtain ⟨arr, t, h1, h2, h3⟩ := h
  simp [World.frozen?, h1]

theorem Blk.lt (h : Blk w b n f) : b < w.heap.size := by
  obtain ⟨arr, t, h1, _⟩ := h
  exact (Array.getElem?_eq_some_iff.1 h1).1

theorem Blk.isCells (h : Blk w b n f) : ∃ o, w.heap[b]? = some o ∧ o.isCells = true := by
  obtain ⟨arr, t, h1, _⟩ := h
  exact ⟨_, h1, rfl⟩

theorem Blk.of_eq (h : Blk w b n f) (he : w'.heap[b]? = w.heap[b]?) : Blk w' b n f := by
  obtain ⟨arr, t, h1, h2, h3⟩ := h
  exact ⟨arr, t, he.trans h1, h2, h3⟩

theorem Blk.ext (h : Blk w b n f) {g : Nat → Value} (hg : ∀ i, i < n → f i = g i) : Blk w b n g := by
  obtain ⟨arr, t, h1, h2, h3⟩ := h
  exact ⟨arr, t, h1, h2, fun i hi => by rw [h3 i hi, hg i hi]⟩

theorem Blk.set (h : Blk w b n f) (i : Nat) (v : Value) : Blk (w.setCell ⟨b, i, none⟩ v) b n (upd f i v) := by
  obtain ⟨arr, t, h1, h2, h3⟩ := h
  refine ⟨arr.setIfInBounds i v, t, ?_, by simpa using h2, fun j hj => ?_⟩
  · obtain ⟨hlt, h4⟩ := Array.getElem?_eq_some_iff.1 h1
    simp only [World.setCell]
    rw [Array.getElem?_eq_getElem (by simpa using hlt), Array.getElem_modify_self, h4]
    simp
  · by_cases hij : i = j
    · subst hij
      simp [h2, hj]
    · rw [Array.getElem?_setIfInBounds_ne hij, h3 j hj, upd_other (Ne.symm hij)]

theorem heap_setCell_other {a : Addr} {v : Value} (h : b ≠ a.block) : (w.setCell a v).heap[b]? = w.heap[b]? := Below.heap_setCell w a v b h

theorem Blk.set_other (h : Blk w b n f) {a : Addr} {v : Value} (hb : b ≠ a.block) : Blk (w.setCell a v) b n f := h.of_eq (heap_setCell_other hb)

theorem Blk.alloc (h : Blk w b n f) (o : Obj) : Blk (w.alloc o) b n f := h.of_eq (Below.heap_alloc w o b h.lt)

theorem Blk.drew (h : Blk w b n f) : Blk w.drew b n f := h

theorem Blk.new (w : World) (cs : Array Value) (t : TypeId) {n : Nat} {f : Nat → Value} (hn : cs.size = n) (hf : ∀ i, i < n → cs[i]? = some (f i)) : Blk (w.alloc (.cells cs t)) w.heap.size n f :=
  ⟨cs, t, World.alloc_heap_new w _, hn, hf⟩

/-- what a step leaves alone: all but the blocks of S, and whatever is no cells -/
structure Only (S : List Nat) (w w' : World) : Prop where
  env : w'.os = w.os ∧ w'.tape = w.tape ∧ w'.output = w.output
  size : w.heap.size ≤ w'.heap.size
  same : ∀ b, b < w.heap.size → b ∉ S → w'.heap[b]? = w.heap[b]?
  others : ∀ (b : Nat) (o : Obj), w.heap[b]? = some o → o.isCells = false → w'.heap[b]? = some o

theorem Only.refl (S : List Nat) (w : World) : Only S w w := ⟨⟨rfl, rfl, rfl⟩, Nat.le_refl _, fun _ _ _ => rfl, fun _ _ h _ => h⟩
theorem Only.trans {S : List Nat} {x y z : World} (h : Only S x y) (k : Only S y z) : Only S x z :=
  ⟨⟨k.env.1.trans h.env.1, k.env.2.1.trans h.env.2.1, k.env.2.2.trans h.env.2.2⟩, Nat.le_trans h.size k.size, fun b hb hs => (k.same b (Nat.lt_of_lt_of_le hb h.size) hs).trans (h.same b hb hs), fun b o ho hc => k.others b o (h.others b o ho hc) hc⟩
theorem Only.mono {S T : List Nat} (h : Only S w w') (hs : ∀ b ∈ S, b ∈ T) : Only T w w' :=
  ⟨h.env, h.size, fun b hb hn => h.same b hb fun hc => hn (hs b hc), h.others⟩
theorem Only.blk {S : List Nat} (h : Only S w w') (hb : Blk w b n f) (hs : b ∉ S) : Blk w' b n f := hb.of_eq (h.same b hb.lt hs)
theorem Only.alloc {S : List Nat} (w : World) (o : Obj) : Only S w (w.alloc o) :=
  ⟨⟨rfl, rfl, rfl⟩, by simp, fun b hb _ => Below.heap_alloc w o b hb, fun b x hx _ => (Below.heap_alloc w o b (Array.getElem?_eq_some_iff.1 hx).1).trans hx⟩
theorem Only.drew {S : List Nat} (w : World) : Only S w w.drew := ⟨⟨rfl, rfl, rfl⟩, Nat.le_refl _, fun _ _ _ => rfl, fun _ _ h _ => h⟩
theorem size_setCell (w : World) (a : Addr) (v : Value) : (w.setCell a v).heap.size = w.heap.size := by simp [World.setCell]
theorem Only.set {S : List Nat} {a : Addr} {v : Value} (hb : Blk w a.block n f) (hs : a.block ∈ S) : Only S w (w.setCell a v) :=
  ⟨⟨rfl, rfl, rfl⟩, by rw [size_setCell]; exact Nat.le_refl _, fun c _ hn => heap_setCell_other fun e => hn (e ▸ hs), fun c o ho hc => by
    by_cases e : c = a.block
    · subst e
      obtain ⟨o', h1, h2⟩ := hb.isCells
      rw [h1] at ho; cases ho
      rw [h2] at hc; cases hc
    · exact (heap_setCell_other e).trans ho⟩
/-- a step that changes what was made since w alone -/
theorem Only.set_new {S : List Nat} {w0 : World} {a : Addr} {v : Value} (h : Only S w0 w) (hs : w0.heap.size ≤ a.block) : Only S w0 (w.setCell a v) :=
  ⟨h.env, by rw [size_setCell]; exact h.size, fun c hc hn => (heap_setCell_other (by omega)).trans (h.same c hc hn), fun c o ho hc => by
    have hlt := (Array.getElem?_eq_some_iff.1 ho).1
    exact (heap_setCell_other (by omega)).trans (h.others c o ho hc)⟩
theorem Only.below (h : Only [] w w') : Below w.heap.size w w' := ⟨h.env.1, h.env.2.1, h.env.2.2, h.size, fun b hb => h.same b hb (by simp)⟩

@[simp] theorem addr_add0 (a : Addr) : a.add 0 = a := rfl
@[simp] theorem addr_add (b o k : Nat) : (⟨b, o, none⟩ : Addr).add k = ⟨b, o + k, none⟩ := by
  unfold Addr.add
  split
  · rename_i h; subst h; rfl
  · rfl

theorem nn_some {a : Addr} {k : Addr → Prop} (h : k a) : Nn (some a) k := h

end Go.Eng

namespace Go.Eng
open Go Go.RowKit

/-! ### Reading a memory that was written -/
theorem cell_set (w : World) (b o : Nat) (v : Value) (b' o' : Nat) :
    (w.setCell ⟨b, o, none⟩ v).cell? ⟨b', o', none⟩ = if b' = b ∧ o' = o ∧ (w.cell? ⟨b, o, none⟩).isSome = true then some v else w.cell? ⟨b', o', none⟩ := by
  unfold World.cell? World.setCell
  simp only [Option.isSome_none, Bool.false_eq_true, if_false]
  by_cases hb : b' = b
  · subst hb
    rw [Array.getElem?_modify]
    simp only [if_true]
    cases hw : w.heap[b']? with
    | none => simp
    | some ob =>
      cases ob <;> simp
      rename_i c t fr
      by_cases ho : o' = o
      · subst ho
        by_cases hlt : o' < c.size <;> simp [hlt]
      · simp [ho, Array.getElem?_setIfInBounds_ne (Ne.symm ho)]
  · rw [Array.getElem?_modify]
    simp [hb, Ne.symm hb]

theorem frozen_set (w : World) (a : Addr) (v : Value) (a' : Addr) : (w.setCell a v).frozen? a' = w.frozen? a' := by
  unfold World.frozen? World.setCell
  simp only []
  rw [Array.getElem?_modify]
  by_cases hb : a.block = a'.block
  · rw [if_pos hb]
    cases hw : w.heap[a'.block]? with
    | none => simp
    | some ob => cases ob <;> simp
  · rw [if_neg hb]

theorem heap_alloc_ne (w : World) (o : Obj) {b : Nat} (hb : b ≠ w.heap.size) : (w.alloc o).heap[b]? = w.heap[b]? := by
  rcases Nat.lt_or_ge b w.heap.size with h | h
  · exact Below.heap_alloc w o b h
  · have h1 : (w.alloc o).heap.size = w.heap.size + 1 := by simp
    rw [Array.getElem?_eq_none (show w.heap.size ≤ b from h), Array.getElem?_eq_none (show (w.alloc o).heap.size ≤ b by omega)]

theorem cell_new (w : World) (cs : Array Value) (t : TypeId) (b o : Nat) :
    (w.alloc (.cells cs t)).cell? ⟨b, o, none⟩ = if b = w.heap.size then cs[o]? else w.cell? ⟨b, o, none⟩ := by
  unfold World.cell?
  by_cases hb : b = w.heap.size
  · subst hb
    rw [if_pos rfl]
    simp only [World.alloc_heap_new w (.cells cs t), Option.isSome_none, Bool.false_eq_true, if_false]
  · rw [if_neg hb]
    simp only [heap_alloc_ne w _ hb]

theorem frozen_new (w : World) (cs : Array Value) (t : TypeId) (b o : Nat) :
    (w.alloc (.cells cs t)).frozen? ⟨b, o, none⟩ = if b = w.heap.size then false else w.frozen? ⟨b, o, none⟩ := by
  unfold World.frozen?
  by_cases hb : b = w.heap.size
  · subst hb
    rw [if_pos rfl]
    simp only [World.alloc_heap_new w (.cells cs t)]
    simp
  · rw [if_neg hb]
    simp only [heap_alloc_ne w _ hb]

theorem cell_drew (w : World) (a : Addr) : w.drew.cell? a = w.cell? a := rfl
theorem frozen_drew (w : World) (a : Addr) : w.drew.frozen? a = w.frozen? a := rfl
theorem size_drew (w : World) : w.drew.heap.size = w.heap.size := rfl
theorem cell_lt {w : World} {b o : Nat} {v : Value} (h : w.cell? ⟨b, o, none⟩ = some v) : b < w.heap.size := World.block_lt_of_cell? _ _ h

theorem isCells_of_cell {w : World} {b o : Nat} {v : Value} (h : w.cell? ⟨b, o, none⟩ = some v) : ∃ ob, w.heap[b]? = some ob ∧ ob.isCells = true := by
  unfold World.cell? at h
  cases ho : w.heap[b]? with
  | none => simp [ho] at h
  | some ob => exact ⟨ob, rfl, by cases ob <;> simp_all [Obj.isCells]⟩

theorem Only.cell {S : List Nat} {w w' : World} (h : Only S w w') {b o : Nat} {v : Value} (hc : w.cell? ⟨b, o, none⟩ = some v) (hs : b ∉ S) : w'.cell? ⟨b, o, none⟩ = some v := by
  unfold World.cell? at *
  rw [h.same b (by exact cell_lt hc) hs]
  exact hc
theorem Only.frozen {S : List Nat} {w w' : World} (h : Only S w w') {b o : Nat} (hl : b < w.heap.size) (hs : b ∉ S) : w'.frozen? ⟨b, o, none⟩ = w.frozen? ⟨b, o, none⟩ := by
  unfold World.frozen?
  rw [h.same b hl hs]

/-- one more store -/
theorem Only.store {S : List Nat} {w0 w : World} {b o : Nat} {v : Value} (h : Only S w0 w) (hb : b ∈ S ∨ w0.heap.size ≤ b) (hc : (w.cell? ⟨b, o, none⟩).isSome = true) : Only S w0 (w.setCell ⟨b, o, none⟩ v) :=
  ⟨h.env, by rw [size_setCell]; exact h.size, fun c hlt hn => (heap_setCell_other (a := ⟨b, o, none⟩) (fun e => by
      have e' : c = b := e
      subst e'
      rcases hb with hb | hb
      · exact hn hb
      · omega)).trans (h.same c hlt hn), fun c ob ho hcells => by
    have h1 := h.others c ob ho hcells
    by_cases e : c = b
    · subst e
      obtain ⟨u, hu⟩ := Option.isSome_iff_exists.1 hc
      obtain ⟨ob', h2, h3⟩ := isCells_of_cell hu
      rw [h2] at h1; cases h1
      rw [h3] at hcells; cases hcells
    · exact (heap_setCell_other (a := ⟨b, o, none⟩) e).trans h1⟩
theorem Only.new {S : List Nat} {w0 w : World} {o : Obj} (h : Only S w0 w) : Only S w0 (w.alloc o) := h.trans (Only.alloc w o)
theorem Only.drawn {S : List Nat} {w0 w : World} (h : Only S w0 w) : Only S w0 w.drew := h.trans (Only.drew w)

theorem St_intro {b o : Nat} {v : Value} {w : World} {k : World → Prop} (hc : (w.cell? ⟨b, o, none⟩).isSome = true) (hf : w.frozen? ⟨b, o, none⟩ = false) (hk : k (w.setCell ⟨b, o, none⟩ v)) : St ⟨b, o, none⟩ v w k :=
  ⟨Option.isSome_iff_exists.1 hc, hf, hk⟩
end Go.Eng

namespace Go.Eng
open Go Go.RowKit
theorem ix_some {a : Addr} {len : Nat} {i : Int} {k : Addr → Prop} (h0 : 0 ≤ i) (h1 : i < len) (h : k a) : Ix (some a) len i k := ⟨h0, h1, h⟩
theorem ix_nat {a : Addr} {len i : Nat} {k : Addr → Prop} (h1 : i < len) (h : k a) : Ix (some a) len (i : Int) k := ⟨by omega, by omega, h⟩
theorem ld_slice {w : World} {a : Addr} {p : Option Addr} {l c : Nat} {k : Option Addr → Nat → Nat → Prop} (h : w.cell? a = some (.slice p l c)) (hk : k p l c) :
    ∃ (sA : Option Addr) (sL : Nat) (sC : Nat), w.cell? a = some (.slice sA sL sC) ∧ k sA sL sC := ⟨_, _, _, h, hk⟩
theorem ld_int {w : World} {a : Addr} {q : IntKind} {n : Int} {k : Int → Prop} (h : w.cell? a = some (.int q n)) (hk : k n) : ∃ n : Int, w.cell? a = some (.int q n) ∧ k n := ⟨_, h, hk⟩
theorem ld_bool {w : World} {a : Addr} {n : Bool} {k : Bool → Prop} (h : w.cell? a = some (.bool n)) (hk : k n) : ∃ n : Bool, w.cell? a = some (.bool n) ∧ k n := ⟨_, h, hk⟩
theorem ld_ptr {w : World} {a : Addr} {n : Option Addr} {k : Option Addr → Prop} (h : w.cell? a = some (.pointer n)) (hk : k n) : ∃ n : Option Addr, w.cell? a = some (.pointer n) ∧ k n := ⟨_, h, hk⟩
theorem if_yes {c p q : Prop} [Decidable c] (hc : c) (h : p) : (if c then p else q) := by rw [if_pos hc]; exact h
theorem if_no {c p q : Prop} [Decidable c] (hc : ¬c) (h : q) : (if c then p else q) := by rw [if_neg hc]; exact h
end Go.Eng

namespace Go.Eng
open Go Go.RowKit
theorem al_intro {cs : Array Value} {t : TypeId} {w : World} {k : Nat → World → Prop} (h : k w.heap.size (w.alloc (.cells cs t))) : Al cs t w k := h
end Go.Eng

namespace Go.Eng
open Go Go.RowKit
theorem cell_set_ne {w : World} {b o : Nat} {v : Value} {b' o' : Nat} (h : b' ≠ b ∨ o' ≠ o) : (w.setCell ⟨b, o, none⟩ v).cell? ⟨b', o', none⟩ = w.cell? ⟨b', o', none⟩ := by
  rw [cell_set, if_neg]
  rintro ⟨h1, h2, _⟩
  rcases h with h | h
  · exact h h1
  · exact h h2
theorem cell_set_eq {w : World} {b o : Nat} {u v : Value} (h : w.cell? ⟨b, o, none⟩ = some u) : (w.setCell ⟨b, o, none⟩ v).cell? ⟨b, o, none⟩ = some v := by
  rw [cell_set, if_pos ⟨rfl, rfl, by simp [h]⟩]
theorem St_at {b o : Nat} {u v : Value} {w : World} {k : World → Prop} (hc : w.cell? ⟨b, o, none⟩ = some u) (hf : w.frozen? ⟨b, o, none⟩ = false) (hk : k (w.setCell ⟨b, o, none⟩ v)) : St ⟨b, o, none⟩ v w k :=
  ⟨⟨u, hc⟩, hf, hk⟩
theorem Only.st {S : List Nat} {w0 w : World} {b o : Nat} {u v : Value} (h : Only S w0 w) (hb : b ∈ S ∨ w0.heap.size ≤ b) (hc : w.cell? ⟨b, o, none⟩ = some u) : Only S w0 (w.setCell ⟨b, o, none⟩ v) := h.store hb (by rw [hc]; rfl)
end Go.Eng

/- Making slices, and appending. -/
namespace Go.Eng
open Go Go.RowKit

variable {P : Program} {C : Tell}

theorem made_get (z : Array Value) (n i : Nat) (hi : i < n) (hz : 0 < z.size) : (madeCells z n)[i]? = z[i % z.size]? := by
  have hm : i % z.size < z.size := Nat.mod_lt _ hz
  simp [madeCells, hi, hm]

theorem make_ok (hW : World2 P C) {t e : TypeId} {ti : TI} (hs : shape1 C t = some (.slice e)) (hti : C.ty e = some ti) (hnt : ti.isTuple = false) {n : Nat} (hb : ti.bytes * n ≤ 281474976710656) (h63 : n ≤ 9223372036854775807)
    {w : World} {k : Value → World → Prop} (h : k (.slice (some ⟨w.heap.size, 0, none⟩) n n) (w.alloc (.cells (madeCells ti.zero.cells (n * ti.size)) e))) :
    Run P (Instr.makeSlice t (.int .i64 n) (.int .i64 n)) w k := by
  obtain ⟨ti', i, td, h1, h2, h3, h4⟩ := und_shape hW.ok hs
  cases td <;> simp [D.agrees] at h4
  subst h4
  obtain ⟨i2, td2, h5⟩ := tyIs hW.ok hti
  have hz := (zero_is h5 hnt).1
  have hb' : (i2.bytes : Int) * (n : Int) ≤ 281474976710656 := by
    rw [h5.bytes]
    have h6 : ((ti.bytes * n : Nat) : Int) ≤ 281474976710656 := by omega
    rwa [Int.natCast_mul] at h6
  have := run_make w t e i2 ti.zero h3.und h5.info hz .i64 .i64 (n : Int) (n : Int) (by omega) (Int.le_refl _) hb' (by omega)
  simp only [Int.toNat_natCast, h5.size] at this
  exact ⟨_, _, this, h⟩

end Go.Eng

namespace Go.Eng
open Go Go.RowKit

variable {P : Program} {C : Tell}

/-- what a row that grows changes: its own block alone -/
theorem own_only {S : List Nat} {w w' : World} {base : Nat} {e : TypeId} {size : Nat} {v : Value} {n : Nat} {xs : List Value} (hown : w.ownsRow base e size v n xs) (hg : w.grownBy w' v.ownBlock) (hs : ∀ b, v.ownBlock = some b → b ∈ S) : Only S w w' := by
  refine ⟨⟨hg.os, hg.tape, hg.output⟩, hg.size, fun b hb hn => hg.block b hb fun h => hn (hs b h.symm), fun b o ho hc => ?_⟩
  refine (hg.block b (Array.getElem?_eq_some_iff.1 ho).1 fun h => ?_).trans ho
  rcases hown.2 with ⟨rfl, _⟩ | ⟨g, cap, cur, rfl, _, hgc, _⟩
  · simp [Value.ownBlock] at h
  · simp only [Value.ownBlock, Option.some.injEq] at h
    subst h
    rw [ho] at hgc
    cases hgc
    cases hc

/-- a row of its own stays, where its block stays -/
theorem own_kept {S : List Nat} {w w' : World} {base : Nat} {e : TypeId} {size : Nat} {v : Value} {n : Nat} {xs : List Value} (hown : w.ownsRow base e size v n xs) (ho : Only S w w') (hs : ∀ b, v.ownBlock = some b → b ∉ S) : w'.ownsRow base e size v n xs := by
  refine ⟨hown.1, ?_⟩
  rcases hown.2 with h | ⟨g, cap, cur, rfl, h1, h2, h3⟩
  · exact .inl h
  · exact .inr ⟨g, cap, cur, rfl, h1, (ho.same g (Array.getElem?_eq_some_iff.1 h2).1 (hs g rfl)).trans h2, h3⟩

theorem append_ok (hW : World2 P C) {t e : TypeId} {ti : TI} (hs : shape1 C t = some (.slice e)) (hti : C.ty e = some ti) (hnt : ti.isTuple = false) (hsz : 0 < ti.size) (hzs : ti.zero.cells.size = ti.size)
    {w : World} {v : Value} {n : Nat} {xs : List Value} (hown : w.ownsRow 0 e ti.size v n xs) {bb : Nat} {news : List Value} (hl : news.length = ti.size) (hnews : ∀ j u, news[j]? = some u → w.cell? ⟨bb, j, none⟩ = some u)
    (h1 : ∀ u ∈ news, u.oneCell' = true) (hm : n + 1 ≤ maxLen) (hb : (n + 1) * ti.bytes ≤ 140737488355328) {K : Value → World → Prop}
    (hK : ∀ g cap w', w'.ownsRow 0 e ti.size (.slice (some ⟨g, 0, none⟩) (n + 1) cap) (n + 1) (xs ++ news) → w.grownBy w' v.ownBlock → (v.ownBlock = some g ∨ g = w.heap.size) → K (.slice (some ⟨g, 0, none⟩) (n + 1) cap) w') :
    RunB P .append #[t, t] t #[false, false] #[v, .slice (some ⟨bb, 0, none⟩) 1 1] w K := by
  obtain ⟨ti', i, td, g1, g2, g3, g4⟩ := und_shape hW.ok hs
  cases td <;> simp [D.agrees] at g4
  subst g4
  obtain ⟨i2, td2, h5⟩ := tyIs hW.ok hti
  have hz := (zero_is h5 hnt).1
  obtain ⟨v', w', h6, h7, h8, _, h10⟩ := run_append_own_at (P := P) w 0 t t e i2 ti.zero ti.size ti.bytes g3.und h5.info hz h5.size h5.bytes hzs hsz v n xs hown ⟨bb, 0, none⟩ 1 1 news (by simpa using hl)
    (fun j u hj => by simpa using hnews j u hj) h1 hm hb (Nat.zero_le _)
  refine ⟨v', w', ?_, ?_⟩
  · simp only [builtin, Sem.run_bind, h6, Result.andThen_ok, Sem.run_pure]
  · rcases h7.2 with ⟨_, h⟩ | ⟨g, cap, cur, rfl, _⟩
    · omega
    · refine hK g cap w' h7 h8 ?_
      rcases h10 with h | h
      · exact .inl (h.symm.trans (by simp [Value.ownBlock]))
      · exact .inr (by simpa [Value.ownBlock] using h)

end Go.Eng

namespace Go.Eng
theorem maxLen_big : 1000000000 ≤ Go.maxLen := by unfold Go.maxLen; decide
end Go.Eng

namespace Go.Eng
open Go Go.RowKit

/-- a loop that counts -/
theorem loop_count {B : List Value → World → (List Value → World → Prop) → (Nat × List Value → World → Prop) → Prop} {out : Nat × List Value → World → Prop} (N : Nat) (J : Nat → World → Prop) (mk : Nat → List Value)
    (hstep : ∀ i w next, i < N → J i w → (∀ w', J (i + 1) w' → next (mk (i + 1)) w') → B (mk i) w next out) (hend : ∀ w next, J N w → B (mk N) w next out) {w : World} (h0 : J 0 w) : LoopP B (mk 0) w out := by
  have key : ∀ k, k ≤ N → ∀ w, J (N - k) w → rounds B (k + 1) (mk (N - k)) w out := by
    intro k
    induction k with
    | zero => intro _ w h; exact hend w _ h
    | succ k ih =>
      intro hk w h
      refine hstep (N - (k + 1)) w _ (by omega) h fun w' h' => ?_
      have e : N - (k + 1) + 1 = N - k := by omega
      rw [e] at h' ⊢
      exact ih (by omega) w' h'
  refine ⟨N + 1, ?_⟩
  have := key N (Nat.le_refl _) w (by simpa using h0)
  simpa using this
end Go.Eng

namespace Go.M
open Go Go.Eng Go.RowKit
set_option linter.all false
set_option linter.constructorNameAsVariable false
set_option maxRecDepth 100000
attribute [local irreducible] evCode owes Owed

/-- overfall/fix.Add -/
def m_fix_Add (a1 : Int) (b2 : Int) (w0 : World) (K : Value → World → Prop) : Prop :=
  (if ((decide (a1 < 0)) == (decide (b2 < 0))) = true then (if (!((decide ((IntKind.wrap .i64 (a1 + b2)) < 0)) == (decide (a1 < 0)))) = true then CallsV P 109 #[(.bool (decide (a1 < 0)))] w0 fun v3 w4 => ∃ (n5 : Int), v3 = (.int .i64 n5) ∧ K (.int .i64 n5) w4 else K (.int .i64 (IntKind.wrap .i64 (a1 + b2))) w0) else K (.int .i64 (IntKind.wrap .i64 (a1 + b2))) w0)

theorem func_63 : P.funcs[63]? = some (fnOf 63) := by kernel_rfl
theorem body_63 : (fnOf 63).body = some (bodyOf 63) := by kernel_rfl
theorem m_fix_Add_owed : Owed P O0 (bodyOf 63) 1 := owed_of (cast (by kernel_rfl) True.intro)
theorem m_fix_Add_eq (a1 : Int) (b2 : Int) (w0 : World) (K : Value → World → Prop) : m_fix_Add a1 b2 w0 K = evCode T0 P O0 (bodyOf 63) 1 (env0 (Array.toList #[(.int .i64 a1), (.int .i64 b2)]) (fnOf 63).ntmps) w0 (endK T0 (fnOf 63).results.toList K) := by kernel_rfl
theorem m_fix_Add_ok {a1 : Int} {b2 : Int} {w0 : World} {K : Value → World → Prop} (h : m_fix_Add a1 b2 w0 K) : CallsV P 63 #[(.int .i64 a1), (.int .i64 b2)] w0 K :=
  func_sound W2 func_63 body_63 m_fix_Add_owed (Eq.mp (m_fix_Add_eq a1 b2 w0 K) h)


/-- overfall/gate.Judge -/
def m_gate_Judge (c1 : Int) (c2 : Int) (c3 : Int) (c4 : Int) (c5 : Int) (c6 : Int) (c7 : Int) (c8 : Int) (c9 : Int) (c10 : Int) (c11 : Int) (c12 : Int) (c13 : Int) (c14 : Int) (c15 : Int) (c16 : Int) (level17 : Int) (now18 : Int) (tier19 : Int) (cohort20 : Int) (deadline21 : Int) (w0 : World) (K : Value → World → Prop) : Prop :=
  Al #[(.int .i64 c1), (.int .i64 c2), (.int .i64 c3), (.int .i64 c4), (.int .i64 c5), (.int .i64 c6), (.int .i64 c7), (.int .i64 c8), (.int .i64 c9), (.int .i64 c10), (.int .i64 c11), (.int .i64 c12), (.int .i64 c13), (.int .i64 c14), (.int .i64 c15), (.int .i64 c16)] 24 w0 fun b22 w23 => ∃ (n24 : Int), World.cell? w23 ((⟨b22, 0, none⟩ : Addr).add 0) = some (.int .i64 n24) ∧ ∃ (n25 : Int), World.cell? w23 ((⟨b22, 0, none⟩ : Addr).add 1) = some (.int .i64 n25) ∧ ∃ (n26 : Int), World.cell? w23 ((⟨b22, 0, none⟩ : Addr).add 2) = some (.int .i64 n26) ∧ ∃ (n27 : Int), World.cell? w23 ((⟨b22, 0, none⟩ : Addr).add 3) = some (.int .i64 n27) ∧ ∃ (n28 : Int), World.cell? w23 ((⟨b22, 0, none⟩ : Addr).add 4) = some (.int .i64 n28) ∧ ∃ (n29 : Int), World.cell? w23 ((⟨b22, 0, none⟩ : Addr).add 5) = some (.int .i64 n29) ∧ ∃ (n30 : Int), World.cell? w23 ((⟨b22, 0, none⟩ : Addr).add 6) = some (.int .i64 n30) ∧ ∃ (n31 : Int), World.cell? w23 ((⟨b22, 0, none⟩ : Addr).add 7) = some (.int .i64 n31) ∧ ∃ (n32 : Int), World.cell? w23 ((⟨b22, 0, none⟩ : Addr).add 8) = some (.int .i64 n32) ∧ ∃ (n33 : Int), World.cell? w23 ((⟨b22, 0, none⟩ : Addr).add 9) = some (.int .i64 n33) ∧ ∃ (n34 : Int), World.cell? w23 ((⟨b22, 0, none⟩ : Addr).add 10) = some (.int .i64 n34) ∧ ∃ (n35 : Int), World.cell? w23 ((⟨b22, 0, none⟩ : Addr).add 11) = some (.int .i64 n35) ∧ ∃ (n36 : Int), World.cell? w23 ((⟨b22, 0, none⟩ : Addr).add 12) = some (.int .i64 n36) ∧ ∃ (n37 : Int), World.cell? w23 ((⟨b22, 0, none⟩ : Addr).add 13) = some (.int .i64 n37) ∧ ∃ (n38 : Int), World.cell? w23 ((⟨b22, 0, none⟩ : Addr).add 14) = some (.int .i64 n38) ∧ ∃ (n39 : Int), World.cell? w23 ((⟨b22, 0, none⟩ : Addr).add 15) = some (.int .i64 n39) ∧ CallsV P 144 #[(.agg #[(.int .i64 n24), (.int .i64 n25), (.int .i64 n26), (.int .i64 n27), (.int .i64 n28), (.int .i64 n29), (.int .i64 n30), (.int .i64 n31), (.int .i64 n32), (.int .i64 n33), (.int .i64 n34), (.int .i64 n35), (.int .i64 n36), (.int .i64 n37), (.int .i64 n38), (.int .i64 n39)]), (.int .i64 tier19), (.int .i64 cohort20)] w23 fun v40 w41 => ∃ (b42 : Bool), v40 = (.bool b42) ∧ (if (!b42) = true then K (.int .u8 2) w41 else (if (decide (deadline21 ≤ now18)) = true then K (.int .u8 3) w41 else ∃ (n43 : Int), QCall P 142 #[(.int .i64 tier19), (.int .i64 cohort20)] (World.drew w41) (.int .i64 n43) ∧ ∃ (n44 : Int), World.cell? (World.drew w41) ((⟨b22, 0, none⟩ : Addr).add 0) = some (.int .i64 n44) ∧ ∃ (n45 : Int), World.cell? (World.drew w41) ((⟨b22, 0, none⟩ : Addr).add 1) = some (.int .i64 n45) ∧ ∃ (n46 : Int), World.cell? (World.drew w41) ((⟨b22, 0, none⟩ : Addr).add 2) = some (.int .i64 n46) ∧ ∃ (n47 : Int), World.cell? (World.drew w41) ((⟨b22, 0, none⟩ : Addr).add 3) = some (.int .i64 n47) ∧ ∃ (n48 : Int), World.cell? (World.drew w41) ((⟨b22, 0, none⟩ : Addr).add 4) = some (.int .i64 n48) ∧ ∃ (n49 : Int), World.cell? (World.drew w41) ((⟨b22, 0, none⟩ : Addr).add 5) = some (.int .i64 n49) ∧ ∃ (n50 : Int), World.cell? (World.drew w41) ((⟨b22, 0, none⟩ : Addr).add 6) = some (.int .i64 n50) ∧ ∃ (n51 : Int), World.cell? (World.drew w41) ((⟨b22, 0, none⟩ : Addr).add 7) = some (.int .i64 n51) ∧ ∃ (n52 : Int), World.cell? (World.drew w41) ((⟨b22, 0, none⟩ : Addr).add 8) = some (.int .i64 n52) ∧ ∃ (n53 : Int), World.cell? (World.drew w41) ((⟨b22, 0, none⟩ : Addr).add 9) = some (.int .i64 n53) ∧ ∃ (n54 : Int), World.cell? (World.drew w41) ((⟨b22, 0, none⟩ : Addr).add 10) = some (.int .i64 n54) ∧ ∃ (n55 : Int), World.cell? (World.drew w41) ((⟨b22, 0, none⟩ : Addr).add 11) = some (.int .i64 n55) ∧ ∃ (n56 : Int), World.cell? (World.drew w41) ((⟨b22, 0, none⟩ : Addr).add 12) = some (.int .i64 n56) ∧ ∃ (n57 : Int), World.cell? (World.drew w41) ((⟨b22, 0, none⟩ : Addr).add 13) = some (.int .i64 n57) ∧ ∃ (n58 : Int), World.cell? (World.drew w41) ((⟨b22, 0, none⟩ : Addr).add 14) = some (.int .i64 n58) ∧ ∃ (n59 : Int), World.cell? (World.drew w41) ((⟨b22, 0, none⟩ : Addr).add 15) = some (.int .i64 n59) ∧ ∃ (n60 : Int), QCall P 141 #[(.agg #[(.int .i64 n44), (.int .i64 n45), (.int .i64 n46), (.int .i64 n47), (.int .i64 n48), (.int .i64 n49), (.int .i64 n50), (.int .i64 n51), (.int .i64 n52), (.int .i64 n53), (.int .i64 n54), (.int .i64 n55), (.int .i64 n56), (.int .i64 n57), (.int .i64 n58), (.int .i64 n59)]), (.int .i64 level17)] (World.drew w41) (.int .i64 n60) ∧ ∀ w61 : World, Below (World.heap (World.drew w41)).size (World.drew w41) w61 → (if (decide (n60 ≤ n43)) = true then K (.int .u8 4) w61 else K (.int .u8 0) w61)))

theorem func_84 : P.funcs[84]? = some (fnOf 84) := by kernel_rfl
theorem body_84 : (fnOf 84).body = some (bodyOf 84) := by kernel_rfl
theorem m_gate_Judge_owed : Owed P O0 (bodyOf 84) 1 := owed_of (cast (by kernel_rfl) True.intro)
theorem m_gate_Judge_eq (c1 : Int) (c2 : Int) (c3 : Int) (c4 : Int) (c5 : Int) (c6 : Int) (c7 : Int) (c8 : Int) (c9 : Int) (c10 : Int) (c11 : Int) (c12 : Int) (c13 : Int) (c14 : Int) (c15 : Int) (c16 : Int) (level17 : Int) (now18 : Int) (tier19 : Int) (cohort20 : Int) (deadline21 : Int) (w0 : World) (K : Value → World → Prop) : m_gate_Judge c1 c2 c3 c4 c5 c6 c7 c8 c9 c10 c11 c12 c13 c14 c15 c16 level17 now18 tier19 cohort20 deadline21 w0 K = evCode T0 P O0 (bodyOf 84) 1 (env0 (Array.toList #[(.agg #[(.int .i64 c1), (.int .i64 c2), (.int .i64 c3), (.int .i64 c4), (.int .i64 c5), (.int .i64 c6), (.int .i64 c7), (.int .i64 c8), (.int .i64 c9), (.int .i64 c10), (.int .i64 c11), (.int .i64 c12), (.int .i64 c13), (.int .i64 c14), (.int .i64 c15), (.int .i64 c16)]), (.int .i64 level17), (.int .i64 now18), (.int .i64 tier19), (.int .i64 cohort20), (.int .i64 deadline21)]) (fnOf 84).ntmps) w0 (endK T0 (fnOf 84).results.toList K) := by kernel_rfl
theorem m_gate_Judge_ok {c1 : Int} {c2 : Int} {c3 : Int} {c4 : Int} {c5 : Int} {c6 : Int} {c7 : Int} {c8 : Int} {c9 : Int} {c10 : Int} {c11 : Int} {c12 : Int} {c13 : Int} {c14 : Int} {c15 : Int} {c16 : Int} {level17 : Int} {now18 : Int} {tier19 : Int} {cohort20 : Int} {deadline21 : Int} {w0 : World} {K : Value → World → Prop} (h : m_gate_Judge c1 c2 c3 c4 c5 c6 c7 c8 c9 c10 c11 c12 c13 c14 c15 c16 level17 now18 tier19 cohort20 deadline21 w0 K) : CallsV P 84 #[(.agg #[(.int .i64 c1), (.int .i64 c2), (.int .i64 c3), (.int .i64 c4), (.int .i64 c5), (.int .i64 c6), (.int .i64 c7), (.int .i64 c8), (.int .i64 c9), (.int .i64 c10), (.int .i64 c11), (.int .i64 c12), (.int .i64 c13), (.int .i64 c14), (.int .i64 c15), (.int .i64 c16)]), (.int .i64 level17), (.int .i64 now18), (.int .i64 tier19), (.int .i64 cohort20), (.int .i64 deadline21)] w0 K :=
  func_sound W2 func_84 body_84 m_gate_Judge_owed (Eq.mp (m_gate_Judge_eq c1 c2 c3 c4 c5 c6 c7 c8 c9 c10 c11 c12 c13 c14 c15 c16 level17 now18 tier19 cohort20 deadline21 w0 K) h)


/-- overfall/conf.within -/
def m_conf_within (n1 : Int) (low2 : Int) (high3 : Int) (w0 : World) (K : Value → World → Prop) : Prop :=
  (if (decide (low2 ≤ n1)) = true then K (.bool (decide (n1 ≤ high3))) w0 else K (.bool false) w0)

theorem func_88 : P.funcs[88]? = some (fnOf 88) := by kernel_rfl
theorem body_88 : (fnOf 88).body = some (bodyOf 88) := by kernel_rfl
theorem m_conf_within_owed : Owed P O0 (bodyOf 88) 1 := owed_of (cast (by kernel_rfl) True.intro)
theorem m_conf_within_eq (n1 : Int) (low2 : Int) (high3 : Int) (w0 : World) (K : Value → World → Prop) : m_conf_within n1 low2 high3 w0 K = evCode T0 P O0 (bodyOf 88) 1 (env0 (Array.toList #[(.int .i64 n1), (.int .i64 low2), (.int .i64 high3)]) (fnOf 88).ntmps) w0 (endK T0 (fnOf 88).results.toList K) := by kernel_rfl
theorem m_conf_within_ok {n1 : Int} {low2 : Int} {high3 : Int} {w0 : World} {K : Value → World → Prop} (h : m_conf_within n1 low2 high3 w0 K) : CallsV P 88 #[(.int .i64 n1), (.int .i64 low2), (.int .i64 high3)] w0 K :=
  func_sound W2 func_88 body_88 m_conf_within_owed (Eq.mp (m_conf_within_eq n1 low2 high3 w0 K) h)


/-- (overfall/conf.Config).Mode -/
def m_conf_Config_Mode (c1 : Int) (c2 : Int) (c3 : Int) (c4 : Int) (c5 : Int) (c6 : Int) (c7 : Int) (c8 : Int) (c9 : Int) (c10 : Int) (c11 : Int) (c12 : Int) (c13 : Int) (c14 : Int) (c15 : Int) (c16 : Int) (w0 : World) (K : Value → World → Prop) : Prop :=
  Al #[(.int .i64 c1), (.int .i64 c2), (.int .i64 c3), (.int .i64 c4), (.int .i64 c5), (.int .i64 c6), (.int .i64 c7), (.int .i64 c8), (.int .i64 c9), (.int .i64 c10), (.int .i64 c11), (.int .i64 c12), (.int .i64 c13), (.int .i64 c14), (.int .i64 c15), (.int .i64 c16)] 24 w0 fun b17 w18 => Al #[(.int .i64 0), (.int .i64 0), (.int .i64 0)] 191 w18 fun b19 w20 => ∃ (n21 : Int), World.cell? w20 ((⟨b17, 0, none⟩ : Addr).add 4) = some (.int .i64 n21) ∧ ∃ (n22 : Int), World.cell? w20 ((⟨b17, 0, none⟩ : Addr).add 5) = some (.int .i64 n22) ∧ ∃ (n23 : Int), World.cell? w20 ((⟨b17, 0, none⟩ : Addr).add 6) = some (.int .i64 n23) ∧ St ((⟨b19, 0, none⟩ : Addr).add 0) (.int .i64 n21) w20 fun w24 => St ((⟨b19, 0, none⟩ : Addr).add 1) (.int .i64 n22) w24 fun w25 => St ((⟨b19, 0, none⟩ : Addr).add 2) (.int .i64 n23) w25 fun w26 => ∃ (r27 : Int), World.cell? w26 ((⟨b19, 0, none⟩ : Addr).add 0) = some (.int .i64 r27) ∧ ∃ (r28 : Int), World.cell? w26 ((⟨b19, 0, none⟩ : Addr).add 1) = some (.int .i64 r28) ∧ ∃ (r29 : Int), World.cell? w26 ((⟨b19, 0, none⟩ : Addr).add 2) = some (.int .i64 r29) ∧ K (.agg #[(.int .i64 r27), (.int .i64 r28), (.int .i64 r29)]) w26

theorem func_89 : P.funcs[89]? = some (fnOf 89) := by kernel_rfl
theorem body_89 : (fnOf 89).body = some (bodyOf 89) := by kernel_rfl
theorem m_conf_Config_Mode_owed : Owed P O0 (bodyOf 89) 1 := owed_of (cast (by kernel_rfl) True.intro)
theorem m_conf_Config_Mode_eq (c1 : Int) (c2 : Int) (c3 : Int) (c4 : Int) (c5 : Int) (c6 : Int) (c7 : Int) (c8 : Int) (c9 : Int) (c10 : Int) (c11 : Int) (c12 : Int) (c13 : Int) (c14 : Int) (c15 : Int) (c16 : Int) (w0 : World) (K : Value → World → Prop) : m_conf_Config_Mode c1 c2 c3 c4 c5 c6 c7 c8 c9 c10 c11 c12 c13 c14 c15 c16 w0 K = evCode T0 P O0 (bodyOf 89) 1 (env0 (Array.toList #[(.agg #[(.int .i64 c1), (.int .i64 c2), (.int .i64 c3), (.int .i64 c4), (.int .i64 c5), (.int .i64 c6), (.int .i64 c7), (.int .i64 c8), (.int .i64 c9), (.int .i64 c10), (.int .i64 c11), (.int .i64 c12), (.int .i64 c13), (.int .i64 c14), (.int .i64 c15), (.int .i64 c16)])]) (fnOf 89).ntmps) w0 (endK T0 (fnOf 89).results.toList K) := by kernel_rfl
theorem m_conf_Config_Mode_ok {c1 : Int} {c2 : Int} {c3 : Int} {c4 : Int} {c5 : Int} {c6 : Int} {c7 : Int} {c8 : Int} {c9 : Int} {c10 : Int} {c11 : Int} {c12 : Int} {c13 : Int} {c14 : Int} {c15 : Int} {c16 : Int} {w0 : World} {K : Value → World → Prop} (h : m_conf_Config_Mode c1 c2 c3 c4 c5 c6 c7 c8 c9 c10 c11 c12 c13 c14 c15 c16 w0 K) : CallsV P 89 #[(.agg #[(.int .i64 c1), (.int .i64 c2), (.int .i64 c3), (.int .i64 c4), (.int .i64 c5), (.int .i64 c6), (.int .i64 c7), (.int .i64 c8), (.int .i64 c9), (.int .i64 c10), (.int .i64 c11), (.int .i64 c12), (.int .i64 c13), (.int .i64 c14), (.int .i64 c15), (.int .i64 c16)])] w0 K :=
  func_sound W2 func_89 body_89 m_conf_Config_Mode_owed (Eq.mp (m_conf_Config_Mode_eq c1 c2 c3 c4 c5 c6 c7 c8 c9 c10 c11 c12 c13 c14 c15 c16 w0 K) h)


/-- (overfall/mode.Params).Right -/
def m_mode_Params_Right (p1 : Int) (p2 : Int) (p3 : Int) (w0 : World) (K : Value → World → Prop) : Prop :=
  Al #[(.int .i64 p1), (.int .i64 p2), (.int .i64 p3)] 191 w0 fun b4 w5 => ∃ (n6 : Int), World.cell? w5 ((⟨b4, 0, none⟩ : Addr).add 1) = some (.int .i64 n6) ∧ (if (decide (0 ≤ n6)) = true then ∃ (n7 : Int), World.cell? w5 ((⟨b4, 0, none⟩ : Addr).add 0) = some (.int .i64 n7) ∧ ∃ (n8 : Int), World.cell? w5 ((⟨b4, 0, none⟩ : Addr).add 1) = some (.int .i64 n8) ∧ (if (decide (n8 ≤ n7)) = true then ∃ (n9 : Int), World.cell? w5 ((⟨b4, 0, none⟩ : Addr).add 2) = some (.int .i64 n9) ∧ K (.bool (decide (0 ≤ n9))) w5 else K (.bool false) w5) else K (.bool false) w5)

theorem func_90 : P.funcs[90]? = some (fnOf 90) := by kernel_rfl
theorem body_90 : (fnOf 90).body = some (bodyOf 90) := by kernel_rfl
theorem m_mode_Params_Right_owed : Owed P O0 (bodyOf 90) 1 := owed_of (cast (by kernel_rfl) True.intro)
theorem m_mode_Params_Right_eq (p1 : Int) (p2 : Int) (p3 : Int) (w0 : World) (K : Value → World → Prop) : m_mode_Params_Right p1 p2 p3 w0 K = evCode T0 P O0 (bodyOf 90) 1 (env0 (Array.toList #[(.agg #[(.int .i64 p1), (.int .i64 p2), (.int .i64 p3)])]) (fnOf 90).ntmps) w0 (endK T0 (fnOf 90).results.toList K) := by kernel_rfl
theorem m_mode_Params_Right_ok {p1 : Int} {p2 : Int} {p3 : Int} {w0 : World} {K : Value → World → Prop} (h : m_mode_Params_Right p1 p2 p3 w0 K) : CallsV P 90 #[(.agg #[(.int .i64 p1), (.int .i64 p2), (.int .i64 p3)])] w0 K :=
  func_sound W2 func_90 body_90 m_mode_Params_Right_owed (Eq.mp (m_mode_Params_Right_eq p1 p2 p3 w0 K) h)


/-- overfall/fix.end -/
def m_fix_end (below1 : Bool) (w0 : World) (K : Value → World → Prop) : Prop :=
  (if below1 = true then K (.int .i64 (-9223372036854775808)) w0 else K (.int .i64 9223372036854775807) w0)

theorem func_109 : P.funcs[109]? = some (fnOf 109) := by kernel_rfl
theorem body_109 : (fnOf 109).body = some (bodyOf 109) := by kernel_rfl
theorem m_fix_end_owed : Owed P O0 (bodyOf 109) 1 := owed_of (cast (by kernel_rfl) True.intro)
theorem m_fix_end_eq (below1 : Bool) (w0 : World) (K : Value → World → Prop) : m_fix_end below1 w0 K = evCode T0 P O0 (bodyOf 109) 1 (env0 (Array.toList #[(.bool below1)]) (fnOf 109).ntmps) w0 (endK T0 (fnOf 109).results.toList K) := by kernel_rfl
theorem m_fix_end_ok {below1 : Bool} {w0 : World} {K : Value → World → Prop} (h : m_fix_end below1 w0 K) : CallsV P 109 #[(.bool below1)] w0 K :=
  func_sound W2 func_109 body_109 m_fix_end_owed (Eq.mp (m_fix_end_eq below1 w0 K) h)


/-- overfall/gate.Deadline -/
def m_gate_Deadline (c1 : Int) (c2 : Int) (c3 : Int) (c4 : Int) (c5 : Int) (c6 : Int) (c7 : Int) (c8 : Int) (c9 : Int) (c10 : Int) (c11 : Int) (c12 : Int) (c13 : Int) (c14 : Int) (c15 : Int) (c16 : Int) (now17 : Int) (deadline18 : Int) (w0 : World) (K : Value → World → Prop) : Prop :=
  Al #[(.int .i64 c1), (.int .i64 c2), (.int .i64 c3), (.int .i64 c4), (.int .i64 c5), (.int .i64 c6), (.int .i64 c7), (.int .i64 c8), (.int .i64 c9), (.int .i64 c10), (.int .i64 c11), (.int .i64 c12), (.int .i64 c13), (.int .i64 c14), (.int .i64 c15), (.int .i64 c16)] 24 w0 fun b19 w20 => ∃ (n21 : Int), World.cell? w20 ((⟨b19, 0, none⟩ : Addr).add 7) = some (.int .i64 n21) ∧ CallsV P 63 #[(.int .i64 now17), (.int .i64 n21)] w20 fun v22 w23 => ∃ (n24 : Int), v22 = (.int .i64 n24) ∧ K (.int .i64 (if n24 < deadline18 then n24 else deadline18)) w23

theorem func_131 : P.funcs[131]? = some (fnOf 131) := by kernel_rfl
theorem body_131 : (fnOf 131).body = some (bodyOf 131) := by kernel_rfl
theorem m_gate_Deadline_owed : Owed P O0 (bodyOf 131) 1 := owed_of (cast (by kernel_rfl) True.intro)
theorem m_gate_Deadline_eq (c1 : Int) (c2 : Int) (c3 : Int) (c4 : Int) (c5 : Int) (c6 : Int) (c7 : Int) (c8 : Int) (c9 : Int) (c10 : Int) (c11 : Int) (c12 : Int) (c13 : Int) (c14 : Int) (c15 : Int) (c16 : Int) (now17 : Int) (deadline18 : Int) (w0 : World) (K : Value → World → Prop) : m_gate_Deadline c1 c2 c3 c4 c5 c6 c7 c8 c9 c10 c11 c12 c13 c14 c15 c16 now17 deadline18 w0 K = evCode T0 P O0 (bodyOf 131) 1 (env0 (Array.toList #[(.agg #[(.int .i64 c1), (.int .i64 c2), (.int .i64 c3), (.int .i64 c4), (.int .i64 c5), (.int .i64 c6), (.int .i64 c7), (.int .i64 c8), (.int .i64 c9), (.int .i64 c10), (.int .i64 c11), (.int .i64 c12), (.int .i64 c13), (.int .i64 c14), (.int .i64 c15), (.int .i64 c16)]), (.int .i64 now17), (.int .i64 deadline18)]) (fnOf 131).ntmps) w0 (endK T0 (fnOf 131).results.toList K) := by kernel_rfl
theorem m_gate_Deadline_ok {c1 : Int} {c2 : Int} {c3 : Int} {c4 : Int} {c5 : Int} {c6 : Int} {c7 : Int} {c8 : Int} {c9 : Int} {c10 : Int} {c11 : Int} {c12 : Int} {c13 : Int} {c14 : Int} {c15 : Int} {c16 : Int} {now17 : Int} {deadline18 : Int} {w0 : World} {K : Value → World → Prop} (h : m_gate_Deadline c1 c2 c3 c4 c5 c6 c7 c8 c9 c10 c11 c12 c13 c14 c15 c16 now17 deadline18 w0 K) : CallsV P 131 #[(.agg #[(.int .i64 c1), (.int .i64 c2), (.int .i64 c3), (.int .i64 c4), (.int .i64 c5), (.int .i64 c6), (.int .i64 c7), (.int .i64 c8), (.int .i64 c9), (.int .i64 c10), (.int .i64 c11), (.int .i64 c12), (.int .i64 c13), (.int .i64 c14), (.int .i64 c15), (.int .i64 c16)]), (.int .i64 now17), (.int .i64 deadline18)] w0 K :=
  func_sound W2 func_131 body_131 m_gate_Deadline_owed (Eq.mp (m_gate_Deadline_eq c1 c2 c3 c4 c5 c6 c7 c8 c9 c10 c11 c12 c13 c14 c15 c16 now17 deadline18 w0 K) h)


/-- overfall/gate.Edge -/
def m_gate_Edge (c1 : Int) (c2 : Int) (c3 : Int) (c4 : Int) (c5 : Int) (c6 : Int) (c7 : Int) (c8 : Int) (c9 : Int) (c10 : Int) (c11 : Int) (c12 : Int) (c13 : Int) (c14 : Int) (c15 : Int) (c16 : Int) (level17 : Int) (w0 : World) (K : Value → World → Prop) : Prop :=
  Al #[(.int .i64 c1), (.int .i64 c2), (.int .i64 c3), (.int .i64 c4), (.int .i64 c5), (.int .i64 c6), (.int .i64 c7), (.int .i64 c8), (.int .i64 c9), (.int .i64 c10), (.int .i64 c11), (.int .i64 c12), (.int .i64 c13), (.int .i64 c14), (.int .i64 c15), (.int .i64 c16)] 24 w0 fun b18 w19 => ∃ (n20 : Int), World.cell? w19 ((⟨b18, 0, none⟩ : Addr).add 0) = some (.int .i64 n20) ∧ ∃ (n21 : Int), World.cell? w19 ((⟨b18, 0, none⟩ : Addr).add 1) = some (.int .i64 n21) ∧ ∃ (n22 : Int), World.cell? w19 ((⟨b18, 0, none⟩ : Addr).add 2) = some (.int .i64 n22) ∧ ∃ (n23 : Int), World.cell? w19 ((⟨b18, 0, none⟩ : Addr).add 3) = some (.int .i64 n23) ∧ ∃ (n24 : Int), World.cell? w19 ((⟨b18, 0, none⟩ : Addr).add 4) = some (.int .i64 n24) ∧ ∃ (n25 : Int), World.cell? w19 ((⟨b18, 0, none⟩ : Addr).add 5) = some (.int .i64 n25) ∧ ∃ (n26 : Int), World.cell? w19 ((⟨b18, 0, none⟩ : Addr).add 6) = some (.int .i64 n26) ∧ ∃ (n27 : Int), World.cell? w19 ((⟨b18, 0, none⟩ : Addr).add 7) = some (.int .i64 n27) ∧ ∃ (n28 : Int), World.cell? w19 ((⟨b18, 0, none⟩ : Addr).add 8) = some (.int .i64 n28) ∧ ∃ (n29 : Int), World.cell? w19 ((⟨b18, 0, none⟩ : Addr).add 9) = some (.int .i64 n29) ∧ ∃ (n30 : Int), World.cell? w19 ((⟨b18, 0, none⟩ : Addr).add 10) = some (.int .i64 n30) ∧ ∃ (n31 : Int), World.cell? w19 ((⟨b18, 0, none⟩ : Addr).add 11) = some (.int .i64 n31) ∧ ∃ (n32 : Int), World.cell? w19 ((⟨b18, 0, none⟩ : Addr).add 12) = some (.int .i64 n32) ∧ ∃ (n33 : Int), World.cell? w19 ((⟨b18, 0, none⟩ : Addr).add 13) = some (.int .i64 n33) ∧ ∃ (n34 : Int), World.cell? w19 ((⟨b18, 0, none⟩ : Addr).add 14) = some (.int .i64 n34) ∧ ∃ (n35 : Int), World.cell? w19 ((⟨b18, 0, none⟩ : Addr).add 15) = some (.int .i64 n35) ∧ CallsV P 150 #[(.agg #[(.int .i64 n20), (.int .i64 n21), (.int .i64 n22), (.int .i64 n23), (.int .i64 n24), (.int .i64 n25), (.int .i64 n26), (.int .i64 n27), (.int .i64 n28), (.int .i64 n29), (.int .i64 n30), (.int .i64 n31), (.int .i64 n32), (.int .i64 n33), (.int .i64 n34), (.int .i64 n35)])] w19 fun v36 w37 => ∃ (n38 : Int), v36 = (.int .i64 n38) ∧ CallsV P 187 #[(.int .i64 n38), (.int .i64 level17)] w37 fun v39 w40 => ∃ (n41 : Int), v39 = (.int .i64 n41) ∧ K (.int .i64 n41) w40

theorem func_141 : P.funcs[141]? = some (fnOf 141) := by kernel_rfl
theorem body_141 : (fnOf 141).body = some (bodyOf 141) := by kernel_rfl
theorem m_gate_Edge_owed : Owed P O0 (bodyOf 141) 1 := owed_of (cast (by kernel_rfl) True.intro)
theorem m_gate_Edge_eq (c1 : Int) (c2 : Int) (c3 : Int) (c4 : Int) (c5 : Int) (c6 : Int) (c7 : Int) (c8 : Int) (c9 : Int) (c10 : Int) (c11 : Int) (c12 : Int) (c13 : Int) (c14 : Int) (c15 : Int) (c16 : Int) (level17 : Int) (w0 : World) (K : Value → World → Prop) : m_gate_Edge c1 c2 c3 c4 c5 c6 c7 c8 c9 c10 c11 c12 c13 c14 c15 c16 level17 w0 K = evCode T0 P O0 (bodyOf 141) 1 (env0 (Array.toList #[(.agg #[(.int .i64 c1), (.int .i64 c2), (.int .i64 c3), (.int .i64 c4), (.int .i64 c5), (.int .i64 c6), (.int .i64 c7), (.int .i64 c8), (.int .i64 c9), (.int .i64 c10), (.int .i64 c11), (.int .i64 c12), (.int .i64 c13), (.int .i64 c14), (.int .i64 c15), (.int .i64 c16)]), (.int .i64 level17)]) (fnOf 141).ntmps) w0 (endK T0 (fnOf 141).results.toList K) := by kernel_rfl
theorem m_gate_Edge_ok {c1 : Int} {c2 : Int} {c3 : Int} {c4 : Int} {c5 : Int} {c6 : Int} {c7 : Int} {c8 : Int} {c9 : Int} {c10 : Int} {c11 : Int} {c12 : Int} {c13 : Int} {c14 : Int} {c15 : Int} {c16 : Int} {level17 : Int} {w0 : World} {K : Value → World → Prop} (h : m_gate_Edge c1 c2 c3 c4 c5 c6 c7 c8 c9 c10 c11 c12 c13 c14 c15 c16 level17 w0 K) : CallsV P 141 #[(.agg #[(.int .i64 c1), (.int .i64 c2), (.int .i64 c3), (.int .i64 c4), (.int .i64 c5), (.int .i64 c6), (.int .i64 c7), (.int .i64 c8), (.int .i64 c9), (.int .i64 c10), (.int .i64 c11), (.int .i64 c12), (.int .i64 c13), (.int .i64 c14), (.int .i64 c15), (.int .i64 c16)]), (.int .i64 level17)] w0 K :=
  func_sound W2 func_141 body_141 m_gate_Edge_owed (Eq.mp (m_gate_Edge_eq c1 c2 c3 c4 c5 c6 c7 c8 c9 c10 c11 c12 c13 c14 c15 c16 level17 w0 K) h)


/-- overfall/gate.Key -/
def m_gate_Key (tier1 : Int) (cohort2 : Int) (w0 : World) (K : Value → World → Prop) : Prop :=
  K (.int .i64 (IntKind.wrap .i64 ((IntKind.wrap .i64 (tier1 * 128)) + cohort2))) w0

theorem func_142 : P.funcs[142]? = some (fnOf 142) := by kernel_rfl
theorem body_142 : (fnOf 142).body = some (bodyOf 142) := by kernel_rfl
theorem m_gate_Key_owed : Owed P O0 (bodyOf 142) 1 := owed_of (cast (by kernel_rfl) True.intro)
theorem m_gate_Key_eq (tier1 : Int) (cohort2 : Int) (w0 : World) (K : Value → World → Prop) : m_gate_Key tier1 cohort2 w0 K = evCode T0 P O0 (bodyOf 142) 1 (env0 (Array.toList #[(.int .i64 tier1), (.int .i64 cohort2)]) (fnOf 142).ntmps) w0 (endK T0 (fnOf 142).results.toList K) := by kernel_rfl
theorem m_gate_Key_ok {tier1 : Int} {cohort2 : Int} {w0 : World} {K : Value → World → Prop} (h : m_gate_Key tier1 cohort2 w0 K) : CallsV P 142 #[(.int .i64 tier1), (.int .i64 cohort2)] w0 K :=
  func_sound W2 func_142 body_142 m_gate_Key_owed (Eq.mp (m_gate_Key_eq tier1 cohort2 w0 K) h)


/-- overfall/gate.Right -/
def m_gate_Right (c1 : Int) (c2 : Int) (c3 : Int) (c4 : Int) (c5 : Int) (c6 : Int) (c7 : Int) (c8 : Int) (c9 : Int) (c10 : Int) (c11 : Int) (c12 : Int) (c13 : Int) (c14 : Int) (c15 : Int) (c16 : Int) (tier17 : Int) (cohort18 : Int) (w0 : World) (K : Value → World → Prop) : Prop :=
  Al #[(.int .i64 c1), (.int .i64 c2), (.int .i64 c3), (.int .i64 c4), (.int .i64 c5), (.int .i64 c6), (.int .i64 c7), (.int .i64 c8), (.int .i64 c9), (.int .i64 c10), (.int .i64 c11), (.int .i64 c12), (.int .i64 c13), (.int .i64 c14), (.int .i64 c15), (.int .i64 c16)] 24 w0 fun b19 w20 => (if (decide (0 ≤ tier17)) = true then ∃ (n21 : Int), World.cell? w20 ((⟨b19, 0, none⟩ : Addr).add 0) = some (.int .i64 n21) ∧ (if (decide (tier17 < n21)) = true then (if (decide (0 ≤ cohort18)) = true then K (.bool (decide (cohort18 < 128))) w20 else K (.bool false) w20) else K (.bool false) w20) else K (.bool false) w20)

theorem func_144 : P.funcs[144]? = some (fnOf 144) := by kernel_rfl
theorem body_144 : (fnOf 144).body = some (bodyOf 144) := by kernel_rfl
theorem m_gate_Right_owed : Owed P O0 (bodyOf 144) 1 := owed_of (cast (by kernel_rfl) True.intro)
theorem m_gate_Right_eq (c1 : Int) (c2 : Int) (c3 : Int) (c4 : Int) (c5 : Int) (c6 : Int) (c7 : Int) (c8 : Int) (c9 : Int) (c10 : Int) (c11 : Int) (c12 : Int) (c13 : Int) (c14 : Int) (c15 : Int) (c16 : Int) (tier17 : Int) (cohort18 : Int) (w0 : World) (K : Value → World → Prop) : m_gate_Right c1 c2 c3 c4 c5 c6 c7 c8 c9 c10 c11 c12 c13 c14 c15 c16 tier17 cohort18 w0 K = evCode T0 P O0 (bodyOf 144) 1 (env0 (Array.toList #[(.agg #[(.int .i64 c1), (.int .i64 c2), (.int .i64 c3), (.int .i64 c4), (.int .i64 c5), (.int .i64 c6), (.int .i64 c7), (.int .i64 c8), (.int .i64 c9), (.int .i64 c10), (.int .i64 c11), (.int .i64 c12), (.int .i64 c13), (.int .i64 c14), (.int .i64 c15), (.int .i64 c16)]), (.int .i64 tier17), (.int .i64 cohort18)]) (fnOf 144).ntmps) w0 (endK T0 (fnOf 144).results.toList K) := by kernel_rfl
theorem m_gate_Right_ok {c1 : Int} {c2 : Int} {c3 : Int} {c4 : Int} {c5 : Int} {c6 : Int} {c7 : Int} {c8 : Int} {c9 : Int} {c10 : Int} {c11 : Int} {c12 : Int} {c13 : Int} {c14 : Int} {c15 : Int} {c16 : Int} {tier17 : Int} {cohort18 : Int} {w0 : World} {K : Value → World → Prop} (h : m_gate_Right c1 c2 c3 c4 c5 c6 c7 c8 c9 c10 c11 c12 c13 c14 c15 c16 tier17 cohort18 w0 K) : CallsV P 144 #[(.agg #[(.int .i64 c1), (.int .i64 c2), (.int .i64 c3), (.int .i64 c4), (.int .i64 c5), (.int .i64 c6), (.int .i64 c7), (.int .i64 c8), (.int .i64 c9), (.int .i64 c10), (.int .i64 c11), (.int .i64 c12), (.int .i64 c13), (.int .i64 c14), (.int .i64 c15), (.int .i64 c16)]), (.int .i64 tier17), (.int .i64 cohort18)] w0 K :=
  func_sound W2 func_144 body_144 m_gate_Right_owed (Eq.mp (m_gate_Right_eq c1 c2 c3 c4 c5 c6 c7 c8 c9 c10 c11 c12 c13 c14 c15 c16 tier17 cohort18 w0 K) h)


/-- (overfall/conf.Config).Most -/
def m_conf_Config_Most (c1 : Int) (c2 : Int) (c3 : Int) (c4 : Int) (c5 : Int) (c6 : Int) (c7 : Int) (c8 : Int) (c9 : Int) (c10 : Int) (c11 : Int) (c12 : Int) (c13 : Int) (c14 : Int) (c15 : Int) (c16 : Int) (w0 : World) (K : Value → World → Prop) : Prop :=
  Al #[(.int .i64 c1), (.int .i64 c2), (.int .i64 c3), (.int .i64 c4), (.int .i64 c5), (.int .i64 c6), (.int .i64 c7), (.int .i64 c8), (.int .i64 c9), (.int .i64 c10), (.int .i64 c11), (.int .i64 c12), (.int .i64 c13), (.int .i64 c14), (.int .i64 c15), (.int .i64 c16)] 24 w0 fun b17 w18 => ∃ (n19 : Int), World.cell? w18 ((⟨b17, 0, none⟩ : Addr).add 0) = some (.int .i64 n19) ∧ K (.int .i64 (IntKind.wrap .i64 (n19 * 128))) w18

theorem func_150 : P.funcs[150]? = some (fnOf 150) := by kernel_rfl
theorem body_150 : (fnOf 150).body = some (bodyOf 150) := by kernel_rfl
theorem m_conf_Config_Most_owed : Owed P O0 (bodyOf 150) 1 := owed_of (cast (by kernel_rfl) True.intro)
theorem m_conf_Config_Most_eq (c1 : Int) (c2 : Int) (c3 : Int) (c4 : Int) (c5 : Int) (c6 : Int) (c7 : Int) (c8 : Int) (c9 : Int) (c10 : Int) (c11 : Int) (c12 : Int) (c13 : Int) (c14 : Int) (c15 : Int) (c16 : Int) (w0 : World) (K : Value → World → Prop) : m_conf_Config_Most c1 c2 c3 c4 c5 c6 c7 c8 c9 c10 c11 c12 c13 c14 c15 c16 w0 K = evCode T0 P O0 (bodyOf 150) 1 (env0 (Array.toList #[(.agg #[(.int .i64 c1), (.int .i64 c2), (.int .i64 c3), (.int .i64 c4), (.int .i64 c5), (.int .i64 c6), (.int .i64 c7), (.int .i64 c8), (.int .i64 c9), (.int .i64 c10), (.int .i64 c11), (.int .i64 c12), (.int .i64 c13), (.int .i64 c14), (.int .i64 c15), (.int .i64 c16)])]) (fnOf 150).ntmps) w0 (endK T0 (fnOf 150).results.toList K) := by kernel_rfl
theorem m_conf_Config_Most_ok {c1 : Int} {c2 : Int} {c3 : Int} {c4 : Int} {c5 : Int} {c6 : Int} {c7 : Int} {c8 : Int} {c9 : Int} {c10 : Int} {c11 : Int} {c12 : Int} {c13 : Int} {c14 : Int} {c15 : Int} {c16 : Int} {w0 : World} {K : Value → World → Prop} (h : m_conf_Config_Most c1 c2 c3 c4 c5 c6 c7 c8 c9 c10 c11 c12 c13 c14 c15 c16 w0 K) : CallsV P 150 #[(.agg #[(.int .i64 c1), (.int .i64 c2), (.int .i64 c3), (.int .i64 c4), (.int .i64 c5), (.int .i64 c6), (.int .i64 c7), (.int .i64 c8), (.int .i64 c9), (.int .i64 c10), (.int .i64 c11), (.int .i64 c12), (.int .i64 c13), (.int .i64 c14), (.int .i64 c15), (.int .i64 c16)])] w0 K :=
  func_sound W2 func_150 body_150 m_conf_Config_Most_owed (Eq.mp (m_conf_Config_Most_eq c1 c2 c3 c4 c5 c6 c7 c8 c9 c10 c11 c12 c13 c14 c15 c16 w0 K) h)


/-- overfall/fix.Sub -/
def m_fix_Sub (a1 : Int) (b2 : Int) (w0 : World) (K : Value → World → Prop) : Prop :=
  (if (!((decide (a1 < 0)) == (decide (b2 < 0)))) = true then (if (!((decide ((IntKind.wrap .i64 (a1 - b2)) < 0)) == (decide (a1 < 0)))) = true then CallsV P 109 #[(.bool (decide (a1 < 0)))] w0 fun v3 w4 => ∃ (n5 : Int), v3 = (.int .i64 n5) ∧ K (.int .i64 n5) w4 else K (.int .i64 (IntKind.wrap .i64 (a1 - b2))) w0) else K (.int .i64 (IntKind.wrap .i64 (a1 - b2))) w0)

theorem func_187 : P.funcs[187]? = some (fnOf 187) := by kernel_rfl
theorem body_187 : (fnOf 187).body = some (bodyOf 187) := by kernel_rfl
theorem m_fix_Sub_owed : Owed P O0 (bodyOf 187) 1 := owed_of (cast (by kernel_rfl) True.intro)
theorem m_fix_Sub_eq (a1 : Int) (b2 : Int) (w0 : World) (K : Value → World → Prop) : m_fix_Sub a1 b2 w0 K = evCode T0 P O0 (bodyOf 187) 1 (env0 (Array.toList #[(.int .i64 a1), (.int .i64 b2)]) (fnOf 187).ntmps) w0 (endK T0 (fnOf 187).results.toList K) := by kernel_rfl
theorem m_fix_Sub_ok {a1 : Int} {b2 : Int} {w0 : World} {K : Value → World → Prop} (h : m_fix_Sub a1 b2 w0 K) : CallsV P 187 #[(.int .i64 a1), (.int .i64 b2)] w0 K :=
  func_sound W2 func_187 body_187 m_fix_Sub_owed (Eq.mp (m_fix_Sub_eq a1 b2 w0 K) h)


/-- overfall/fix.Clamp -/
def m_fix_Clamp (x1 : Int) (low2 : Int) (high3 : Int) (w0 : World) (K : Value → World → Prop) : Prop :=
  (if (decide (x1 < low2)) = true then K (.int .i64 low2) w0 else (if (decide (high3 < x1)) = true then K (.int .i64 high3) w0 else K (.int .i64 x1) w0))

theorem func_196 : P.funcs[196]? = some (fnOf 196) := by kernel_rfl
theorem body_196 : (fnOf 196).body = some (bodyOf 196) := by kernel_rfl
theorem m_fix_Clamp_owed : Owed P O0 (bodyOf 196) 1 := owed_of (cast (by kernel_rfl) True.intro)
theorem m_fix_Clamp_eq (x1 : Int) (low2 : Int) (high3 : Int) (w0 : World) (K : Value → World → Prop) : m_fix_Clamp x1 low2 high3 w0 K = evCode T0 P O0 (bodyOf 196) 1 (env0 (Array.toList #[(.int .i64 x1), (.int .i64 low2), (.int .i64 high3)]) (fnOf 196).ntmps) w0 (endK T0 (fnOf 196).results.toList K) := by kernel_rfl
theorem m_fix_Clamp_ok {x1 : Int} {low2 : Int} {high3 : Int} {w0 : World} {K : Value → World → Prop} (h : m_fix_Clamp x1 low2 high3 w0 K) : CallsV P 196 #[(.int .i64 x1), (.int .i64 low2), (.int .i64 high3)] w0 K :=
  func_sound W2 func_196 body_196 m_fix_Clamp_owed (Eq.mp (m_fix_Clamp_eq x1 low2 high3 w0 K) h)


end Go.M

/- What the functions on numbers, on the gate and on the mode come to. -/
set_option linter.all false
set_option linter.constructorNameAsVariable false
namespace Go.M
open Go Go.Eng Go.RowKit

def i64 (a : Int) : Prop := -9223372036854775808 ≤ a ∧ a ≤ 9223372036854775807

/-- a number brought within what there is -/
def sat (a : Int) : Int := if a < -9223372036854775808 then -9223372036854775808 else if 9223372036854775807 < a then 9223372036854775807 else a

theorem sat_i64 (a : Int) : i64 (sat a) := by unfold sat i64; split <;> (try split) <;> omega

theorem end_ok {b : Bool} {w : World} {K : Value → World → Prop} (h : K (.int .i64 (if b = true then -9223372036854775808 else 9223372036854775807)) w) : CallsV P 109 #[.bool b] w K := by
  refine m_fix_end_ok ?_
  unfold m_fix_end
  cases b <;> simpa using h

theorem add_ok {a b : Int} (ha : i64 a) (hb : i64 b) {w : World} {K : Value → World → Prop} (h : K (.int .i64 (sat (a + b))) w) : CallsV P 63 #[.int .i64 a, .int .i64 b] w K := by
  refine m_fix_Add_ok ?_
  unfold m_fix_Add
  unfold i64 at ha hb
  have hw : IntKind.wrap .i64 (a + b) = if 9223372036854775807 < a + b then a + b - 18446744073709551616 else if a + b < -9223372036854775808 then a + b + 18446744073709551616 else a + b := by
    rw [IntKind.wrap_i64]; (try unfold wrap64); split <;> (try split) <;> omega
  unfold sat at h
  rw [hw]
  by_cases h1 : 9223372036854775807 < a + b
  · rw [if_pos h1]
    refine if_yes (by simp; omega) (if_yes (by simp; omega) (end_ok ⟨_, rfl, ?_⟩))
    rw [if_neg (by omega), if_pos h1] at h
    rw [if_neg (by simp; omega)]
    exact h
  · rw [if_neg h1]
    by_cases h2 : a + b < -9223372036854775808
    · rw [if_pos h2]
      refine if_yes (by simp; omega) (if_yes (by simp; omega) (end_ok ⟨_, rfl, ?_⟩))
      rw [if_pos h2] at h
      rw [if_pos (by simp; omega)]
      exact h
    · rw [if_neg h2] at h ⊢
      rw [if_neg h1] at h
      by_cases h3 : ((decide (a < 0)) == (decide (b < 0))) = true
      · refine if_yes h3 (if_no ?_ h)
        simp at h3 ⊢
        omega
      · exact if_no h3 h

theorem sub_ok {a b : Int} (ha : i64 a) (hb : i64 b) {w : World} {K : Value → World → Prop} (h : K (.int .i64 (sat (a - b))) w) : CallsV P 187 #[.int .i64 a, .int .i64 b] w K := by
  refine m_fix_Sub_ok ?_
  unfold m_fix_Sub
  unfold i64 at ha hb
  have hw : IntKind.wrap .i64 (a - b) = if 9223372036854775807 < a - b then a - b - 18446744073709551616 else if a - b < -9223372036854775808 then a - b + 18446744073709551616 else a - b := by
    rw [IntKind.wrap_i64]; (try unfold wrap64); split <;> (try split) <;> omega
  unfold sat at h
  rw [hw]
  by_cases h1 : 9223372036854775807 < a - b
  · rw [if_pos h1]
    refine if_yes (by simp; omega) (if_yes (by simp; omega) (end_ok ⟨_, rfl, ?_⟩))
    rw [if_neg (by omega), if_pos h1] at h
    rw [if_neg (by simp; omega)]
    exact h
  · rw [if_neg h1]
    by_cases h2 : a - b < -9223372036854775808
    · rw [if_pos h2]
      refine if_yes (by simp; omega) (if_yes (by simp; omega) (end_ok ⟨_, rfl, ?_⟩))
      rw [if_pos h2] at h
      rw [if_pos (by simp; omega)]
      exact h
    · rw [if_neg h2] at h ⊢
      rw [if_neg h1] at h
      by_cases h3 : (!((decide (a < 0)) == (decide (b < 0)))) = true
      · refine if_yes h3 (if_no ?_ h)
        simp at h3 ⊢
        omega
      · exact if_no h3 h

def clampM (x l h : Int) : Int := if x < l then l else if h < x then h else x

theorem clamp_ok {x l h : Int} {w : World} {K : Value → World → Prop} (hK : K (.int .i64 (clampM x l h)) w) : CallsV P 196 #[.int .i64 x, .int .i64 l, .int .i64 h] w K := by
  refine m_fix_Clamp_ok ?_
  unfold m_fix_Clamp
  unfold clampM at hK
  by_cases h1 : x < l
  · exact if_yes (by simpa using h1) (by simpa [h1] using hK)
  · refine if_no (by simpa using h1) ?_
    by_cases h2 : h < x
    · exact if_yes (by simpa using h2) (by simpa [h1, h2] using hK)
    · exact if_no (by simpa using h2) (by simpa [h1, h2] using hK)

/-- a config -/
structure Cf where
  tiers : Int
  room : Int
  target : Int
  interval : Int
  high : Int
  low : Int
  dwell : Int
  horizon : Int
  setpoint : Int
  kp : Int
  ki : Int
  kd : Int
  limit : Int
  step : Int
  threads : Int
  ring : Int

def Cf.cells (c : Cf) : Array Value := #[.int .i64 c.tiers, .int .i64 c.room, .int .i64 c.target, .int .i64 c.interval, .int .i64 c.high, .int .i64 c.low, .int .i64 c.dwell, .int .i64 c.horizon,
  .int .i64 c.setpoint, .int .i64 c.kp, .int .i64 c.ki, .int .i64 c.kd, .int .i64 c.limit, .int .i64 c.step, .int .i64 c.threads, .int .i64 c.ring]

variable {c : Cf}

theorem key_ok {t k : Int} {w : World} {K : Value → World → Prop} (h : K (.int .i64 (IntKind.wrap .i64 (IntKind.wrap .i64 (t * 128) + k))) w) : CallsV P 142 #[.int .i64 t, .int .i64 k] w K := by
  refine m_gate_Key_ok ?_
  exact h

theorem most_ok {w : World} {K : Value → World → Prop} (h : ∀ w', Only [] w w' → K (.int .i64 (IntKind.wrap .i64 (c.tiers * 128))) w') : CallsV P 150 #[.agg c.cells] w K := by
  refine m_conf_Config_Most_ok ?_
  unfold m_conf_Config_Most
  refine al_intro (ld_int (n := c.tiers) (by simp [cell_new]) (h _ (Only.alloc _ _)))

def rightM (c : Cf) (t k : Int) : Bool := decide (0 ≤ t) && decide (t < c.tiers) && decide (0 ≤ k) && decide (k < 128)

theorem right_ok {t k : Int} {w : World} {K : Value → World → Prop} (h : ∀ w', Only [] w w' → K (.bool (rightM c t k)) w') : CallsV P 144 #[.agg c.cells, .int .i64 t, .int .i64 k] w K := by
  refine m_gate_Right_ok ?_
  unfold m_gate_Right
  refine al_intro ?_
  have h' := h _ (Only.alloc w (.cells c.cells 24))
  unfold rightM at h'
  unfold Cf.cells at h'
  by_cases h1 : 0 ≤ t
  · refine if_yes (by simpa using h1) (ld_int (n := c.tiers) (by simp [cell_new]) ?_)
    by_cases h2 : t < c.tiers
    · refine if_yes (by simpa using h2) ?_
      by_cases h3 : 0 ≤ k
      · exact if_yes (by simpa using h3) (by simpa [h1, h2, h3] using h')
      · exact if_no (by simpa using h3) (by simpa [h1, h2, h3] using h')
    · exact if_no (by simpa using h2) (by simpa [h1, h2] using h')
  · exact if_no (by simpa using h1) (by simpa [h1] using h')

theorem edge_ok (ht : i64 (c.tiers * 128)) {l : Int} (hl : i64 l) {w : World} {K : Value → World → Prop} (h : ∀ w', Only [] w w' → K (.int .i64 (sat (c.tiers * 128 - l))) w') : CallsV P 141 #[.agg c.cells, .int .i64 l] w K := by
  refine m_gate_Edge_ok ?_
  unfold m_gate_Edge
  refine al_intro ?_
  refine ld_int (n := c.tiers) (by simp [cell_new]) (ld_int (n := c.room) (by simp [cell_new]) (ld_int (n := c.target) (by simp [cell_new]) (ld_int (n := c.interval) (by simp [cell_new]) (ld_int (n := c.high) (by simp [cell_new]) (ld_int (n := c.low) (by simp [cell_new]) (ld_int (n := c.dwell) (by simp [cell_new]) (ld_int (n := c.horizon) (by simp [cell_new]) ?_)))))))
  refine ld_int (n := c.setpoint) (by simp [cell_new]) (ld_int (n := c.kp) (by simp [cell_new]) (ld_int (n := c.ki) (by simp [cell_new]) (ld_int (n := c.kd) (by simp [cell_new]) (ld_int (n := c.limit) (by simp [cell_new]) (ld_int (n := c.step) (by simp [cell_new]) (ld_int (n := c.threads) (by simp [cell_new]) (ld_int (n := c.ring) (by simp [cell_new]) ?_)))))))
  refine most_ok (c := c) fun w1 h1 => ⟨_, rfl, ?_⟩
  unfold i64 at ht
  rw [IntWalk.i64_in _ (by omega)]
  exact sub_ok ht hl ⟨_, rfl, h _ ((Only.alloc _ _).trans h1)⟩

theorem deadline_ok {n d : Int} (hn : i64 n) (hh : i64 c.horizon) {w : World} {K : Value → World → Prop} (h : ∀ w', Only [] w w' → K (.int .i64 (min d (sat (n + c.horizon)))) w') : CallsV P 131 #[.agg c.cells, .int .i64 n, .int .i64 d] w K := by
  refine m_gate_Deadline_ok ?_
  unfold m_gate_Deadline
  refine al_intro (ld_int (n := c.horizon) (by simp [cell_new]) (add_ok hn hh ⟨_, rfl, ?_⟩))
  have := h _ (Only.alloc w (.cells c.cells 24))
  have e : (if sat (n + c.horizon) < d then sat (n + c.horizon) else d) = min d (sat (n + c.horizon)) := by
    rw [Int.min_def]; split <;> split <;> omega
  rw [e]
  exact this

end Go.M

/- What the gate says. -/
set_option linter.all false
set_option linter.constructorNameAsVariable false
namespace Go.M
open Go Go.Eng Go.RowKit

/-- a config in a block of its own -/
structure CfAt (w : World) (b : Nat) (c : Cf) : Prop where
  c0 : w.cell? ⟨b, 0, none⟩ = some (.int .i64 c.tiers)
  c1 : w.cell? ⟨b, 1, none⟩ = some (.int .i64 c.room)
  c2 : w.cell? ⟨b, 2, none⟩ = some (.int .i64 c.target)
  c3 : w.cell? ⟨b, 3, none⟩ = some (.int .i64 c.interval)
  c4 : w.cell? ⟨b, 4, none⟩ = some (.int .i64 c.high)
  c5 : w.cell? ⟨b, 5, none⟩ = some (.int .i64 c.low)
  c6 : w.cell? ⟨b, 6, none⟩ = some (.int .i64 c.dwell)
  c7 : w.cell? ⟨b, 7, none⟩ = some (.int .i64 c.horizon)
  c8 : w.cell? ⟨b, 8, none⟩ = some (.int .i64 c.setpoint)
  c9 : w.cell? ⟨b, 9, none⟩ = some (.int .i64 c.kp)
  c10 : w.cell? ⟨b, 10, none⟩ = some (.int .i64 c.ki)
  c11 : w.cell? ⟨b, 11, none⟩ = some (.int .i64 c.kd)
  c12 : w.cell? ⟨b, 12, none⟩ = some (.int .i64 c.limit)
  c13 : w.cell? ⟨b, 13, none⟩ = some (.int .i64 c.step)
  c14 : w.cell? ⟨b, 14, none⟩ = some (.int .i64 c.threads)
  c15 : w.cell? ⟨b, 15, none⟩ = some (.int .i64 c.ring)

theorem cf_load {w : World} {b : Nat} {c : Cf} (h : CfAt w b c) {k : Int → Int → Int → Int → Int → Int → Int → Int → Int → Int → Int → Int → Int → Int → Int → Int → Prop} (hk : k c.tiers c.room c.target c.interval c.high c.low c.dwell c.horizon c.setpoint c.kp c.ki c.kd c.limit c.step c.threads c.ring) : ∃ n0 : Int, w.cell? ⟨b, 0, none⟩ = some (.int .i64 n0) ∧ ∃ n1 : Int, w.cell? ⟨b, 1, none⟩ = some (.int .i64 n1) ∧ ∃ n2 : Int, w.cell? ⟨b, 2, none⟩ = some (.int .i64 n2) ∧ ∃ n3 : Int, w.cell? ⟨b, 3, none⟩ = some (.int .i64 n3) ∧ ∃ n4 : Int, w.cell? ⟨b, 4, none⟩ = some (.int .i64 n4) ∧ ∃ n5 : Int, w.cell? ⟨b, 5, none⟩ = some (.int .i64 n5) ∧ ∃ n6 : Int, w.cell? ⟨b, 6, none⟩ = some (.int .i64 n6) ∧ ∃ n7 : Int, w.cell? ⟨b, 7, none⟩ = some (.int .i64 n7) ∧ ∃ n8 : Int, w.cell? ⟨b, 8, none⟩ = some (.int .i64 n8) ∧ ∃ n9 : Int, w.cell? ⟨b, 9, none⟩ = some (.int .i64 n9) ∧ ∃ n10 : Int, w.cell? ⟨b, 10, none⟩ = some (.int .i64 n10) ∧ ∃ n11 : Int, w.cell? ⟨b, 11, none⟩ = some (.int .i64 n11) ∧ ∃ n12 : Int, w.cell? ⟨b, 12, none⟩ = some (.int .i64 n12) ∧ ∃ n13 : Int, w.cell? ⟨b, 13, none⟩ = some (.int .i64 n13) ∧ ∃ n14 : Int, w.cell? ⟨b, 14, none⟩ = some (.int .i64 n14) ∧ ∃ n15 : Int, w.cell? ⟨b, 15, none⟩ = some (.int .i64 n15) ∧ k n0 n1 n2 n3 n4 n5 n6 n7 n8 n9 n10 n11 n12 n13 n14 n15 := ⟨_, h.c0, _, h.c1, _, h.c2, _, h.c3, _, h.c4, _, h.c5, _, h.c6, _, h.c7, _, h.c8, _, h.c9, _, h.c10, _, h.c11, _, h.c12, _, h.c13, _, h.c14, _, h.c15, hk⟩
theorem CfAt.only {S : List Nat} {w w' : World} {b : Nat} {c : Cf} (h : CfAt w b c) (ho : Only S w w') (hs : b ∉ S) : CfAt w' b c := ⟨ho.cell h.c0 hs, ho.cell h.c1 hs, ho.cell h.c2 hs, ho.cell h.c3 hs, ho.cell h.c4 hs, ho.cell h.c5 hs, ho.cell h.c6 hs, ho.cell h.c7 hs, ho.cell h.c8 hs, ho.cell h.c9 hs, ho.cell h.c10 hs, ho.cell h.c11 hs, ho.cell h.c12 hs, ho.cell h.c13 hs, ho.cell h.c14 hs, ho.cell h.c15 hs⟩
theorem cf_new (w : World) (c : Cf) (t : Nat) : CfAt (w.alloc (.cells c.cells t)) w.heap.size c := by
  constructor <;> simp [cell_new, Cf.cells]

theorem qOf {w : World} {f : Nat} {args : Array Value} {v : Value} (h : ∀ w1 (K : Value → World → Prop), (∀ w', Only [] w1 w' → K v w') → CallsV P f args w1 K) : QCall P f args w v :=
  fun w1 _ => h w1 _ fun w' ho => ⟨rfl, ho.below⟩
theorem onlyBelow {w w1 : World} (h : Below w.heap.size w w1) : Only [] w w1 :=
  ⟨⟨h.os, h.tape, h.output⟩, h.size, fun b hb _ => h.block b hb, fun b o ho _ => (h.block b (Array.getElem?_eq_some_iff.1 ho).1).trans ho⟩

/-- what the gate says -/
def judgeM (c : Cf) (level now tier cohort deadline : Int) : Int :=
  if rightM c tier cohort = true then (if deadline ≤ now then 3 else if sat (c.tiers * 128 - level) ≤ IntKind.wrap .i64 (IntKind.wrap .i64 (tier * 128) + cohort) then 4 else 0) else 2

theorem judge_ok {c : Cf} (ht : i64 (c.tiers * 128)) {l now t k d : Int} (hl : i64 l) {w : World} {K : Value → World → Prop} (hK : ∀ w', Only [] w w' → K (.int .u8 (judgeM c l now t k d)) w') :
    CallsV P 84 #[.agg c.cells, .int .i64 l, .int .i64 now, .int .i64 t, .int .i64 k, .int .i64 d] w K := by
  refine m_gate_Judge_ok ?_
  unfold m_gate_Judge
  refine al_intro ?_
  have a0 : CfAt (w.alloc (.cells c.cells 24)) w.heap.size c := cf_new w c 24
  have o0 : Only [] w (w.alloc (.cells c.cells 24)) := Only.alloc _ _
  simp only [addr_add, Nat.zero_add]
  refine cf_load a0 (right_ok (c := c) fun w1 o1 => ⟨_, rfl, ?_⟩)
  unfold judgeM at hK
  by_cases hr : rightM c t k = true
  · simp only [if_pos hr] at hK
    refine if_no (by simp [hr]) ?_
    by_cases hd : d ≤ now
    · simp only [if_pos hd] at hK
      exact if_yes (by simpa using hd) (hK _ (o0.trans o1))
    · simp only [if_neg hd] at hK
      refine if_no (by simpa using hd) ⟨_, qOf fun w1 K h => key_ok (h _ (Only.refl _ _)), ?_⟩
      have a1 : CfAt w1.drew w.heap.size c := (a0.only o1 (by simp)).only (Only.drew (S := []) w1) (by simp)
      refine cf_load a1 ⟨_, qOf fun w1 K h => edge_ok (c := c) ht hl h, fun w2 hb => ?_⟩
      have o2 : Only [] w w2 := ((o0.trans o1).trans (Only.drew _)).trans (onlyBelow hb)
      by_cases he : sat (c.tiers * 128 - l) ≤ IntKind.wrap .i64 (IntKind.wrap .i64 (t * 128) + k)
      · simp only [if_pos he] at hK
        exact if_yes (by simpa using he) (hK _ o2)
      · simp only [if_neg he] at hK
        exact if_no (by simpa using he) (hK _ o2)
  · simp only [if_neg hr] at hK
    exact if_yes (by simpa using hr) (hK _ (o0.trans o1))

end Go.M
