/- Proofs about the front of the overload controller, part 13: QL QM Q0. -/
import Derived.Test.YtdodcfbmpmapmaaGreatW11
import Derived.Test.YtdodcfbmpmapmaaGreatW12
import Derived.Test.YtdodcfbmpmapmaaGreatW10
set_option linter.all false
set_option linter.constructorNameAsVariable false
set_option linter.unusedVariables false
/- The slab's and the rows' plain laws: no program in sight. -/
set_option linter.all false
set_option linter.constructorNameAsVariable false
namespace Go.M
open Go Go.Eng

/-- different numbers below a bound are not more than it -/
theorem nodup_le : ∀ {m : Nat} {l : List Nat}, l.Nodup → (∀ i ∈ l, i < m) → l.length ≤ m := by
  intro m
  induction m with
  | zero =>
    intro l _ h
    cases l with
    | nil => simp
    | cons a l => exact absurd (h a (List.mem_cons_self ..)) (by omega)
  | succ m ih =>
    intro l hn h
    have h1 : (l.erase m).Nodup := hn.erase _
    have h2 : ∀ i ∈ l.erase m, i < m := fun i hi => by
      have := hn.mem_erase_iff.1 hi
      have := h i this.2
      omega
    have h3 := ih h1 h2
    have h4 : l.length ≤ (l.erase m).length + 1 := by
      rw [List.length_erase]
      split <;> omega
    omega

/-! ### The slab -/
def Chain (next : Nat → Int) : Int → List Nat → Prop
  | f, [] => f = -1
  | f, i :: l => f = (i : Int) ∧ Chain next (next i) l

theorem Chain.ext {nx nx' : Nat → Int} : ∀ {f : Int} {l : List Nat}, Chain nx f l → (∀ i ∈ l, nx' i = nx i) → Chain nx' f l
  | _, [], h, _ => h
  | f, i :: l, h, he => ⟨h.1, by rw [he i (List.mem_cons_self ..)]; exact Chain.ext h.2 fun j hj => he j (List.mem_cons_of_mem _ hj)⟩

structure SlabOk (s : SlabM) (fl : List Nat) (T : Int) : Prop where
  chain : Chain s.next s.freed fl
  nodup : fl.Nodup
  flt : ∀ i ∈ fl, (i : Int) < s.fresh
  f0 : 0 ≤ s.fresh
  f1 : s.fresh ≤ s.n
  taken : ∀ i, i < s.n → (s.taken i = true ↔ ((i : Int) < s.fresh ∧ i ∉ fl))
  len : s.len + fl.length = s.fresh
  turns : ∀ i, 0 ≤ s.turns i ∧ s.turns i ≤ T

theorem slabOk_new (n : Nat) : SlabOk (SlabM.new n) [] 0 :=
  ⟨rfl, List.nodup_nil, fun i h => (nomatch h), Int.le_refl _, by simp [SlabM.new], fun i _ => by simp [SlabM.new], rfl, fun i => ⟨Int.le_refl _, Int.le_refl _⟩⟩

theorem SlabOk.len_le {s : SlabM} {fl : List Nat} {T : Int} (h : SlabOk s fl T) : 0 ≤ s.len ∧ s.len ≤ s.n := by
  have h1 := nodup_le (m := s.fresh.toNat) h.nodup fun i hi => by have := h.flt i hi; omega
  have := h.len
  have := h.f0
  have := h.f1
  omega

theorem SlabOk.len_pos {s : SlabM} {fl : List Nat} {T : Int} (h : SlabOk s fl T) {i : Nat} (hi : i < s.n) (ht : s.taken i = true) : 1 ≤ s.len := by
  obtain ⟨h1, h2⟩ := (h.taken i hi).1 ht
  have h3 := nodup_le (m := s.fresh.toNat) (l := i :: fl) (List.nodup_cons.2 ⟨h2, h.nodup⟩) fun j hj => by
    rcases List.mem_cons.1 hj with e | hj
    · subst e; omega
    · have := h.flt j hj; omega
  have := h.len
  have := h.f0
  simp only [List.length_cons] at h3
  omega

theorem SlabOk.take {s : SlabM} {fl : List Nat} {T : Int} (h : SlabOk s fl T) (hl : s.len < s.n) (q : Rq) :
    ∃ (i : Nat) (fl' : List Nat), s.free? = (i : Int) ∧ i < s.n ∧ s.taken i = false ∧ SlabOk (s.take i q) fl' (T + 1) := by
  have hturns : ∀ i j, 0 ≤ upd s.turns i (s.turns i + 1) j ∧ upd s.turns i (s.turns i + 1) j ≤ T + 1 := fun i j => by
    unfold upd
    have := h.turns i
    have := h.turns j
    split <;> omega
  cases fl with
  | nil =>
    have hf : s.freed = -1 := h.chain
    have hlen := h.len
    simp only [List.length_nil] at hlen
    obtain ⟨i, hi⟩ := Int.eq_ofNat_of_zero_le h.f0
    refine ⟨i, [], by unfold SlabM.free?; rw [if_pos hf, hi], by omega, ?_, ?_⟩
    · have := h.taken i (by omega)
      cases ht : s.taken i with
      | false => rfl
      | true => have := (this.1 ht).1; omega
    · unfold SlabM.take
      rw [if_pos hf]
      refine ⟨by exact hf, List.nodup_nil, fun j hj => (nomatch hj), by show 0 ≤ s.fresh + 1; omega, by show s.fresh + 1 ≤ s.n; omega, fun j hj => ?_, by show s.len + 1 + 0 = s.fresh + 1; omega, hturns i⟩
      show upd s.taken i true j = true ↔ (j : Int) < s.fresh + 1 ∧ j ∉ []
      by_cases e : j = i
      · subst e; simp; omega
      · rw [upd_other e, h.taken j hj]; simp; omega
  | cons i fl =>
    obtain ⟨hf, hch⟩ := h.chain
    obtain ⟨hni, hnd⟩ := List.nodup_cons.1 h.nodup
    have hne : ¬ s.freed = -1 := by omega
    have hifr := h.flt i (List.mem_cons_self ..)
    have hin : i < s.n := by have := h.f1; omega
    refine ⟨i, fl, by unfold SlabM.free?; rw [if_neg hne, hf], hin, ?_, ?_⟩
    · cases ht : s.taken i with
      | false => rfl
      | true => exact absurd (List.mem_cons_self ..) ((h.taken i hin).1 ht).2
    · unfold SlabM.take
      rw [if_neg hne]
      have hlen := h.len
      simp only [List.length_cons] at hlen
      refine ⟨hch, hnd, fun j hj => h.flt j (List.mem_cons_of_mem _ hj), h.f0, h.f1, fun j hj => ?_, by show s.len + 1 + fl.length = s.fresh; omega, hturns i⟩
      show upd s.taken i true j = true ↔ (j : Int) < s.fresh ∧ j ∉ fl
      by_cases e : j = i
      · subst e; simp [hni]; omega
      · rw [upd_other e, h.taken j hj]; simp [e]

theorem SlabOk.free {s : SlabM} {fl : List Nat} {T : Int} (h : SlabOk s fl T) (hn : s.n ≤ 1024) {i : Nat} (hi : i < s.n) (ht : s.taken i = true) : SlabOk (s.free i) (i :: fl) T ∧ (s.free i).len = s.len - 1 := by
  obtain ⟨h1, h2⟩ := (h.taken i hi).1 ht
  have hp := h.len_pos hi ht
  have hle := h.len_le
  have hlen := h.len
  have e : IntKind.wrap .i64 (s.len - 1) = s.len - 1 := IntWalk.i64_in _ (by omega)
  refine ⟨?_, e⟩
  unfold SlabM.free
  refine ⟨⟨rfl, ?_⟩, List.nodup_cons.2 ⟨h2, h.nodup⟩, fun j hj => ?_, h.f0, h.f1, fun j hj => ?_, ?_, h.turns⟩
  · show Chain (upd s.next i s.freed) (upd s.next i s.freed i) fl
    rw [upd_same]
    exact h.chain.ext fun j hj => upd_other (fun e => h2 (e ▸ hj))
  · rcases List.mem_cons.1 hj with e | hj
    · subst e; exact h1
    · exact h.flt j hj
  · show upd s.taken i false j = true ↔ (j : Int) < s.fresh ∧ j ∉ i :: fl
    by_cases e : j = i
    · subst e; simp
    · rw [upd_other e, h.taken j hj]; simp [e]
  · show IntKind.wrap .i64 (s.len - 1) + ((i :: fl).length : Nat) = s.fresh
    rw [e]
    simp only [List.length_cons]
    omega

/-! ### The rows -/
def hd (c : List Nat) (q : Int) : Int := match c with | [] => q | i :: _ => (i : Int)
def lst : List Nat → Int → Int
  | [], p => p
  | i :: c, _ => lst c (i : Int)

theorem lst_app (a : List Nat) (i : Nat) (p : Int) : lst (a ++ [i]) p = (i : Int) := by
  induction a generalizing p with
  | nil => rfl
  | cons j a ih => exact ih _
theorem lst_app' (a b : List Nat) (p : Int) : lst (a ++ b) p = lst b (lst a p) := by
  induction a generalizing p with
  | nil => rfl
  | cons j a ih => exact ih _
theorem hd_app (a b : List Nat) (q : Int) : hd (a ++ b) q = hd a (hd b q) := by cases a <;> rfl
theorem lst_cases (a : List Nat) (p : Int) : (a = [] ∧ lst a p = p) ∨ ∃ (a' : List Nat) (j : Nat), a = a' ++ [j] ∧ lst a p = (j : Int) := by
  rcases List.eq_nil_or_concat a with h | ⟨a', j, h⟩
  · subst h; exact .inl ⟨rfl, rfl⟩
  · rw [List.concat_eq_append] at h
    exact .inr ⟨a', j, h, by rw [h, lst_app]⟩

/-- a row's links, from p to q -/
def Lk (pv nx : Nat → Int) : Int → List Nat → Int → Prop
  | _, [], _ => True
  | p, i :: c, q => pv i = p ∧ nx i = hd c q ∧ Lk pv nx (i : Int) c q

theorem Lk.app {pv nx : Nat → Int} : ∀ {a b : List Nat} {p q : Int}, Lk pv nx p (a ++ b) q ↔ Lk pv nx p a (hd b q) ∧ Lk pv nx (lst a p) b q
  | [], _, _, _ => by simp [Lk, lst]
  | i :: a, b, p, q => by
    simp only [List.cons_append, Lk, lst, Lk.app (a := a), hd_app]
    constructor
    · rintro ⟨h1, h2, h3, h4⟩; exact ⟨⟨h1, h2, h3⟩, h4⟩
    · rintro ⟨⟨h1, h2, h3⟩, h4⟩; exact ⟨h1, h2, h3, h4⟩

theorem Lk.ext {pv nx pv' nx' : Nat → Int} : ∀ {c : List Nat} {p q : Int}, Lk pv nx p c q → (∀ i ∈ c, pv' i = pv i ∧ nx' i = nx i) → Lk pv' nx' p c q
  | [], _, _, _, _ => trivial
  | i :: c, p, q, h, he => ⟨by rw [(he i (List.mem_cons_self ..)).1]; exact h.1, by rw [(he i (List.mem_cons_self ..)).2]; exact h.2.1, h.2.2.ext fun j hj => he j (List.mem_cons_of_mem _ hj)⟩

/-- another end -/
theorem Lk.tail {pv nx : Nat → Int} {a : List Nat} {j : Nat} {p q q' : Int} (h : Lk pv nx p (a ++ [j]) q) (hn : j ∉ a) : Lk pv (upd nx j q') p (a ++ [j]) q' := by
  rw [Lk.app] at h ⊢
  refine ⟨?_, ?_⟩
  · exact (h.1 : Lk pv nx p a (j : Int)).ext fun i hi => ⟨rfl, upd_other (fun e => hn (e ▸ hi))⟩
  · exact ⟨h.2.1, upd_same _ _ _, trivial⟩
/-- another beginning -/
theorem Lk.head {pv nx : Nat → Int} {b : List Nat} {j : Nat} {p p' q : Int} (h : Lk pv nx p (j :: b) q) (hn : j ∉ b) : Lk (upd pv j p') nx p' (j :: b) q :=
  ⟨upd_same _ _ _, h.2.1, h.2.2.ext fun i hi => ⟨upd_other (fun e => hn (e ▸ hi)), rfl⟩⟩

structure RowsOk (s : RowsM) (R : Nat → List Nat) : Prop where
  front : ∀ t, t < s.nr → s.front t = hd (R t) (-1)
  back : ∀ t, t < s.nr → s.back t = lst (R t) (-1)
  count : ∀ t, t < s.nr → s.count t = (R t).length
  link : ∀ t, t < s.nr → Lk s.prev s.next (-1) (R t) (-1)
  row : ∀ t, t < s.nr → ∀ i ∈ R t, i < s.nk ∧ s.row i = t
  nodup : ∀ t, t < s.nr → (R t).Nodup
  out : ∀ i, i < s.nk → s.row i = -1 ∨ ∃ t, t < s.nr ∧ s.row i = t ∧ i ∈ R t

theorem rowsOk_new {s : RowsM} {nr nk : Nat} (h : s.Empty nr nk) : RowsOk s fun _ => [] :=
  ⟨fun t ht => h.efront t (h.enr ▸ ht), fun t ht => h.eback t (h.enr ▸ ht), fun t ht => by rw [h.ecount t (h.enr ▸ ht)]; rfl, fun _ _ => trivial, fun _ _ _ hi => (nomatch hi), fun _ _ => List.nodup_nil, fun i hi => .inl (h.erow i (h.enk ▸ hi))⟩

theorem RowsOk.push {s : RowsM} {R : Nat → List Nat} (h : RowsOk s R) {t i : Nat} (ht : t < s.nr) (hi : i < s.nk) (hr : s.row i = -1) : RowsOk (s.push t i) (upd R t (R t ++ [i])) := by
  have hnot : ∀ t', t' < s.nr → i ∉ R t' := fun t' ht' hm => by have := (h.row t' ht' i hm).2; omega
  have hrow : ∀ t', t' < s.nr → ∀ j ∈ R t', j ≠ i := fun t' ht' j hj e => hnot t' ht' (e ▸ hj)
  have hout : ∀ (row' : Nat → Int), row' = upd s.row i t → ∀ j, j < s.nk → row' j = -1 ∨ ∃ t', t' < s.nr ∧ row' j = t' ∧ j ∈ upd R t (R t ++ [i]) t' := fun row' e j hj => by
    subst e
    by_cases e : j = i
    · subst e; exact .inr ⟨t, ht, upd_same _ _ _, by rw [upd_same]; simp⟩
    · rw [upd_other e]
      rcases h.out j hj with h1 | ⟨t', h1, h2, h3⟩
      · exact .inl h1
      · refine .inr ⟨t', h1, h2, ?_⟩
        unfold upd; split
        · rename_i e2; subst e2; simp [h3]
        · exact h3
  have hrw : ∀ t', t' < s.nr → ∀ j ∈ upd R t (R t ++ [i]) t', j < s.nk ∧ upd s.row i (t : Int) j = t' := fun t' ht' j hj => by
    by_cases e : t' = t
    · subst e
      rw [upd_same] at hj
      rcases List.mem_append.1 hj with hj | hj
      · rw [upd_other (hrow _ ht' _ hj)]; exact h.row _ ht' j hj
      · have : j = i := by simpa using hj
        subst this; exact ⟨hi, upd_same _ _ _⟩
    · rw [upd_other e] at hj
      rw [upd_other (hrow _ ht' _ hj)]; exact h.row _ ht' j hj
  have hnd : ∀ t', t' < s.nr → (upd R t (R t ++ [i]) t').Nodup := fun t' ht' => by
    unfold upd; split
    · exact List.nodup_append.2 ⟨h.nodup t ht, by simp, fun a ha b hb e => by
        have : b = i := by simpa using hb
        subst this; exact hrow t ht a ha e⟩
    · exact h.nodup t' ht'
  have hcount : ∀ t', t' < s.nr → upd s.count t (s.count t + 1) t' = (upd R t (R t ++ [i]) t').length := fun t' ht' => by
    by_cases e : t' = t
    · subst e; rw [upd_same, upd_same, h.count t' ht']; simp
    · rw [upd_other e, upd_other e]; exact h.count t' ht'
  have hback : ∀ t', t' < s.nr → upd s.back t (i : Int) t' = lst (upd R t (R t ++ [i]) t') (-1) := fun t' ht' => by
    by_cases e : t' = t
    · subst e; rw [upd_same, upd_same, lst_app]
    · rw [upd_other e, upd_other e]; exact h.back t' ht'
  rcases lst_cases (R t) (-1) with ⟨he, hb⟩ | ⟨a, j, he, hb⟩
  · rw [push_nil (by rw [h.back t ht]; exact hb)]
    refine ⟨fun t' ht' => ?_, hback, hcount, fun t' ht' => ?_, hrw, hnd, hout _ rfl⟩
    · show upd s.front t (i : Int) t' = _
      by_cases e : t' = t
      · subst e; rw [upd_same, upd_same, he]; rfl
      · rw [upd_other e, upd_other e]; exact h.front t' ht'
    · show Lk (upd s.prev i (s.back t)) (upd s.next i (-1)) (-1) _ (-1)
      by_cases e : t' = t
      · subst e; rw [upd_same, he]
        refine ⟨?_, upd_same _ _ _, trivial⟩
        rw [upd_same, h.back t' ht', hb]
      · rw [upd_other e]
        exact (h.link t' ht').ext fun x hx => ⟨upd_other (hrow t' ht' x hx), upd_other (hrow t' ht' x hx)⟩
  · rw [push_cons (j := j) (by rw [h.back t ht]; exact hb)]
    have hjR : j ∈ R t := by rw [he]; simp
    have hji := hrow t ht j hjR
    have hja : j ∉ a := fun hm => by
      have := h.nodup t ht
      rw [he] at this
      exact (List.nodup_append.1 this).2.2 j hm j (by simp) rfl
    refine ⟨fun t' ht' => ?_, hback, hcount, fun t' ht' => ?_, hrw, hnd, hout _ rfl⟩
    · show s.front t' = _
      by_cases e : t' = t
      · subst e; rw [upd_same, h.front t' ht', he]; cases a <;> rfl
      · rw [upd_other e]; exact h.front t' ht'
    · show Lk (upd s.prev i (j : Int)) (upd (upd s.next i (-1)) j i) (-1) _ (-1)
      by_cases e : t' = t
      · subst e
        rw [upd_same, Lk.app]
        refine ⟨?_, ?_⟩
        · rw [he]
          have h1 := h.link t' ht'
          rw [he] at h1
          have h2 : Lk (upd s.prev i (j : Int)) (upd s.next i (-1)) (-1) (a ++ [j]) (-1) := h1.ext fun x hx => by
            have := hrow t' ht' x (by rw [he]; exact hx)
            exact ⟨upd_other this, upd_other this⟩
          exact h2.tail hja
        · rw [hb]
          exact ⟨upd_same _ _ _, by rw [upd_other (Ne.symm hji), upd_same]; rfl, trivial⟩
      · rw [upd_other e]
        refine (h.link t' ht').ext fun x hx => ⟨upd_other (hrow t' ht' x hx), ?_⟩
        have : x ≠ j := fun e2 => by
          subst e2
          have h1 := (h.row t' ht' x hx).2
          have h2 := (h.row t ht x hjR).2
          omega
        rw [upd_other this, upd_other (hrow t' ht' x hx)]

/-- the model of Remove -/
def RowsM.remove (s : RowsM) (i : Nat) : RowsM :=
  let t := (s.row i).toNat
  let s1 := if s.prev i = -1 then { s with front := upd s.front t (s.next i) } else { s with next := upd s.next (s.prev i).toNat (s.next i) }
  let s2 := if s.next i = -1 then { s1 with back := upd s1.back t (s.prev i) } else { s1 with prev := upd s1.prev (s.next i).toNat (s.prev i) }
  { s2 with count := upd s2.count t (s2.count t - 1), row := upd s2.row i (-1), prev := upd s2.prev i (-1), next := upd s2.next i (-1) }

end Go.M

/- The plain law of taking one out of a row. -/
set_option linter.all false
set_option linter.constructorNameAsVariable false
namespace Go.M
open Go Go.Eng

def rmNext (s : RowsM) (i : Nat) : Nat → Int := upd (if s.prev i = -1 then s.next else upd s.next (s.prev i).toNat (s.next i)) i (-1)
def rmPrev (s : RowsM) (i : Nat) : Nat → Int := upd (if s.next i = -1 then s.prev else upd s.prev (s.next i).toNat (s.prev i)) i (-1)
def rmFront (s : RowsM) (i t : Nat) : Nat → Int := if s.prev i = -1 then upd s.front t (s.next i) else s.front
def rmBack (s : RowsM) (i t : Nat) : Nat → Int := if s.next i = -1 then upd s.back t (s.prev i) else s.back

theorem remove_eq {s : RowsM} {i t : Nat} (ht : s.row i = t) (hji : s.prev i ≠ (i : Int)) (hki : s.next i ≠ (i : Int)) :
    s.remove i = { s with front := rmFront s i t, back := rmBack s i t, count := upd s.count t (s.count t - 1), row := upd s.row i (-1), prev := rmPrev s i, next := rmNext s i } := by
  unfold RowsM.remove rmFront rmBack rmPrev rmNext
  rw [ht]
  simp only [Int.toNat_natCast]
  by_cases h1 : s.prev i = -1
  · by_cases h2 : s.next i = -1
    · simp only [h1, h2, if_true]
    · simp only [h1, h2, if_true, if_false]
  · by_cases h2 : s.next i = -1
    · simp only [h1, h2, if_true, if_false]
    · simp only [h1, h2, if_false]

theorem RowsOk.remove {s : RowsM} {R : Nat → List Nat} (h : RowsOk s R) {t i : Nat} (ht : t < s.nr) {a b : List Nat} (hR : R t = a ++ i :: b) :
    RowsOk (s.remove i) (upd R t (a ++ b)) ∧ s.row i = t ∧ s.prev i = lst a (-1) ∧ s.next i = hd b (-1) ∧ s.prev i ≠ (i : Int) ∧ s.next i ≠ (i : Int) := by
  have hiR : i ∈ R t := by rw [hR]; simp
  have hrow : s.row i = t := (h.row t ht i hiR).2
  have hnd := h.nodup t ht
  rw [hR] at hnd
  obtain ⟨nda, ndib, dis⟩ := List.nodup_append.1 hnd
  obtain ⟨nib, ndb⟩ := List.nodup_cons.1 ndib
  have nia : i ∉ a := fun hm => dis i hm i (List.mem_cons_self ..) rfl
  have hl := h.link t ht
  rw [hR, Lk.app] at hl
  obtain ⟨hla, hp, hn, hlb⟩ := hl
  have hla' : Lk s.prev s.next (-1) a (i : Int) := hla
  have pne : s.prev i ≠ (i : Int) := by
    rcases lst_cases a (-1) with ⟨_, e⟩ | ⟨a', j, e1, e2⟩
    · rw [hp, e]; omega
    · rw [hp, e2]; intro e; exact nia (by rw [e1]; simp; omega)
  have nne : s.next i ≠ (i : Int) := by
    cases b with
    | nil => rw [hn]; show (-1 : Int) ≠ _; omega
    | cons k b => rw [hn]; show ((k : Nat) : Int) ≠ _; intro e; exact nib (by simp; omega)
  have pge : -1 ≤ s.prev i := by
    rcases lst_cases a (-1) with ⟨_, e⟩ | ⟨a', j, e1, e2⟩
    · rw [hp, e]; omega
    · rw [hp, e2]; omega
  have nge : -1 ≤ s.next i := by
    cases b with
    | nil => rw [hn]; show (-1 : Int) ≤ -1; omega
    | cons k b => rw [hn]; show (-1 : Int) ≤ ((k : Nat) : Int); omega
  refine ⟨?_, hrow, hp, hn, pne, nne⟩
  have other : ∀ t', t' < s.nr → t' ≠ t → ∀ x ∈ R t', x ≠ i ∧ (x : Int) ≠ s.prev i ∧ (x : Int) ≠ s.next i := fun t' ht' hne x hx => by
    have hx2 := (h.row t' ht' x hx).2
    have key : ∀ y, y ∈ R t → x ≠ y := fun y hy e => by
      subst e
      have := (h.row t ht x hy).2
      omega
    refine ⟨key i hiR, ?_, ?_⟩
    · rw [hp]
      rcases lst_cases a (-1) with ⟨_, e⟩ | ⟨a', j, e1, e2⟩
      · rw [e]; omega
      · rw [e2]; have := key j (by rw [hR, e1]; simp); omega
    · rw [hn]
      cases b with
      | nil => show (x : Int) ≠ -1; omega
      | cons k b => show (x : Int) ≠ ((k : Nat) : Int); have := key k (by rw [hR]; simp); omega
  have nx_other : ∀ x : Nat, x ≠ i → (x : Int) ≠ s.prev i → rmNext s i x = s.next x := fun x h1 h2 => by
    unfold rmNext
    rw [upd_other h1]
    split
    · rfl
    · exact upd_other (by omega)
  have pv_other : ∀ x : Nat, x ≠ i → (x : Int) ≠ s.next i → rmPrev s i x = s.prev x := fun x h1 h2 => by
    unfold rmPrev
    rw [upd_other h1]
    split
    · rfl
    · exact upd_other (by omega)
  rw [remove_eq hrow pne nne]
  refine ⟨fun t' ht' => ?_, fun t' ht' => ?_, fun t' ht' => ?_, fun t' ht' => ?_, fun t' ht' x hx => ?_, fun t' ht' => ?_, fun x hx => ?_⟩
  · show rmFront s i t t' = _
    unfold rmFront
    by_cases e : t' = t
    · subst e
      rw [upd_same]
      rcases lst_cases a (-1) with ⟨e1, e2⟩ | ⟨a', j, e1, e2⟩
      · rw [if_pos (by rw [hp, e2]), upd_same, hn, e1]; rfl
      · rw [if_neg (by rw [hp, e2]; omega), h.front t' ht', hR, e1]
        cases a' <;> rfl
    · rw [upd_other e]
      split
      · rw [upd_other e]; exact h.front t' ht'
      · exact h.front t' ht'
  · show rmBack s i t t' = _
    unfold rmBack
    by_cases e : t' = t
    · subst e
      rw [upd_same]
      cases b with
      | nil => rw [if_pos (by rw [hn]; rfl), upd_same, hp, List.append_nil]
      | cons k b =>
        rw [if_neg (by rw [hn]; show ¬ ((k : Nat) : Int) = -1; omega), h.back t' ht', hR, lst_app', lst_app']
        rfl
    · rw [upd_other e]
      split
      · rw [upd_other e]; exact h.back t' ht'
      · exact h.back t' ht'
  · show upd s.count t (s.count t - 1) t' = _
    by_cases e : t' = t
    · subst e; rw [upd_same, upd_same, h.count t' ht', hR]; simp; omega
    · rw [upd_other e, upd_other e]; exact h.count t' ht'
  · show Lk (rmPrev s i) (rmNext s i) (-1) _ (-1)
    by_cases e : t' = t
    · subst e
      rw [upd_same, Lk.app]
      have sep : ∀ x ∈ a, ∀ y ∈ b, x ≠ y := fun x hx y hy => dis x hx y (List.mem_cons_of_mem _ hy)
      refine ⟨?_, ?_⟩
      · rcases lst_cases a (-1) with ⟨e1, e2⟩ | ⟨a', j, e1, e2⟩
        · rw [e1]; trivial
        · rw [e1] at hla' nda ⊢
          have hj : j ∉ a' := fun hm => (List.nodup_append.1 nda).2.2 j hm j (by simp) rfl
          refine (hla'.tail (q' := hd b (-1)) hj).ext fun x hx => ⟨?_, ?_⟩
          · have hxi : x ≠ i := fun e => nia (by rw [e1, ← e]; exact hx)
            refine pv_other x hxi ?_
            rw [hn]
            cases b with
            | nil => show (x : Int) ≠ -1; omega
            | cons k b => show (x : Int) ≠ ((k : Nat) : Int); have := sep x (by rw [e1]; exact hx) k (by simp); omega
          · have hxi : x ≠ i := fun e => nia (by rw [e1, ← e]; exact hx)
            unfold rmNext
            rw [upd_other hxi, if_neg (by rw [hp, e2]; omega), hp, e2, hn]
            rfl
      · cases b with
        | nil => trivial
        | cons k b =>
          have hk : k ∉ b := (List.nodup_cons.1 ndb).1
          refine (hlb.head (p' := lst a (-1)) hk).ext fun x hx => ⟨?_, ?_⟩
          · have hxi : x ≠ i := fun e => nib (e ▸ hx)
            unfold rmPrev
            rw [upd_other hxi, if_neg (by rw [hn]; show ¬ ((k : Nat) : Int) = -1; omega), hp, hn]
            rfl
          · have hxi : x ≠ i := fun e => nib (e ▸ hx)
            refine nx_other x hxi ?_
            rw [hp]
            rcases lst_cases a (-1) with ⟨e1, e2⟩ | ⟨a', j, e1, e2⟩
            · rw [e2]; omega
            · rw [e2]; have := sep j (by rw [e1]; simp) x hx; omega
    · rw [upd_other e]
      exact (h.link t' ht').ext fun x hx => by
        obtain ⟨h1, h2, h3⟩ := other t' ht' e x hx
        exact ⟨pv_other x h1 h3, nx_other x h1 h2⟩
  · show x < s.nk ∧ upd s.row i (-1) x = t'
    by_cases e : t' = t
    · subst e
      rw [upd_same] at hx
      have hxR : x ∈ R t' := by rw [hR]; rcases List.mem_append.1 hx with h | h <;> simp [h]
      have hxi : x ≠ i := fun e => by
        subst e
        rcases List.mem_append.1 hx with h | h
        · exact nia h
        · exact nib h
      rw [upd_other hxi]; exact h.row t' ht' x hxR
    · rw [upd_other e] at hx
      rw [upd_other (other t' ht' e x hx).1]; exact h.row t' ht' x hx
  · unfold upd; split
    · exact List.nodup_append.2 ⟨nda, ndb, fun x hx y hy => dis x hx y (List.mem_cons_of_mem _ hy)⟩
    · exact h.nodup t' ht'
  · show upd s.row i (-1) x = -1 ∨ ∃ t', t' < s.nr ∧ upd s.row i (-1) x = t' ∧ x ∈ upd R t (a ++ b) t'
    by_cases e : x = i
    · subst e; exact .inl (upd_same _ _ _)
    · rw [upd_other e]
      rcases h.out x hx with h1 | ⟨t', h1, h2, h3⟩
      · exact .inl h1
      · refine .inr ⟨t', h1, h2, ?_⟩
        unfold upd; split
        · rename_i e2; subst e2
          rw [hR] at h3
          rcases List.mem_append.1 h3 with h4 | h4
          · simp [h4]
          · rcases List.mem_cons.1 h4 with h5 | h5
            · exact absurd h5 e
            · simp [h5]
        · exact h3

end Go.M

namespace Go.M
open Go Go.Eng Go.RowKit
set_option linter.all false
set_option linter.constructorNameAsVariable false
set_option maxRecDepth 100000
attribute [local irreducible] evCode owes Owed

/-- overfall/tierq.New -/
def m_tierq_New (tiers1 : Int) (room2 : Int) (w0 : World) (K : Value → World → Prop) : Prop :=
  CallsV P 123 #[(.int .i64 tiers1), (.int .i64 room2)] w0 fun v3 w4 => ∃ (p5 : Option Addr) (n6 : Int), v3 = (.tuple #[(.pointer p5), (.int .i64 n6)]) ∧ (if (!decide (n6 = 0)) = true then K (.tuple #[(.pointer none), (.int .i64 n6)]) w4 else CallsV P 124 #[(.int .i64 room2)] w4 fun v7 w8 => ∃ (p9 : Option Addr) (n10 : Int), v7 = (.tuple #[(.pointer p9), (.int .i64 n10)]) ∧ CallsV P 125 #[(.int .i64 room2)] w8 fun v11 w12 => ∃ (p13 : Option Addr) (n14 : Int), v11 = (.tuple #[(.pointer p13), (.int .i64 n14)]) ∧ Run P (Instr.makeSlice 250 (.int .i64 room2) (.int .i64 room2)) w12 fun v15 w16 => ∃ (sA17 : Option Addr) (sL18 : Nat) (sC19 : Nat), v15 = (.slice sA17 sL18 sC19) ∧ Al #[(.pointer p9), (.pointer p5), (.pointer p13), (.slice sA17 sL18 sC19), (.int .i64 tiers1)] 252 w16 fun b20 w21 => K (.tuple #[(.pointer (some (⟨b20, 0, none⟩ : Addr))), (.int .i64 0)]) w21)

theorem func_78 : P.funcs[78]? = some (fnOf 78) := by kernel_rfl
theorem body_78 : (fnOf 78).body = some (bodyOf 78) := by kernel_rfl
theorem m_tierq_New_owed : Owed P O0 (bodyOf 78) 1 := owed_of (cast (by kernel_rfl) True.intro)
theorem m_tierq_New_eq (tiers1 : Int) (room2 : Int) (w0 : World) (K : Value → World → Prop) : m_tierq_New tiers1 room2 w0 K = evCode T0 P O0 (bodyOf 78) 1 (env0 (Array.toList #[(.int .i64 tiers1), (.int .i64 room2)]) (fnOf 78).ntmps) w0 (endK T0 (fnOf 78).results.toList K) := by kernel_rfl
theorem m_tierq_New_ok {tiers1 : Int} {room2 : Int} {w0 : World} {K : Value → World → Prop} (h : m_tierq_New tiers1 room2 w0 K) : CallsV P 78 #[(.int .i64 tiers1), (.int .i64 room2)] w0 K :=
  func_sound W2 func_78 body_78 m_tierq_New_owed (Eq.mp (m_tierq_New_eq tiers1 room2 w0 K) h)


/-- (*overfall/tierq.Queue).Len -/
def m_tierq_Queue_Len (q1 : Option Addr) (w0 : World) (K : Value → World → Prop) : Prop :=
  (if (Option.isNone q1) = true then K (.int .i64 0) w0 else Nn q1 fun q2 => ∃ (p3 : Option Addr), World.cell? w0 (q2.add 0) = some (.pointer p3) ∧ CallsV P 146 #[(.pointer p3)] w0 fun v4 w5 => ∃ (n6 : Int), v4 = (.int .i64 n6) ∧ K (.int .i64 n6) w5)

theorem func_86 : P.funcs[86]? = some (fnOf 86) := by kernel_rfl
theorem body_86 : (fnOf 86).body = some (bodyOf 86) := by kernel_rfl
theorem m_tierq_Queue_Len_owed : Owed P O0 (bodyOf 86) 1 := owed_of (cast (by kernel_rfl) True.intro)
theorem m_tierq_Queue_Len_eq (q1 : Option Addr) (w0 : World) (K : Value → World → Prop) : m_tierq_Queue_Len q1 w0 K = evCode T0 P O0 (bodyOf 86) 1 (env0 (Array.toList #[(.pointer q1)]) (fnOf 86).ntmps) w0 (endK T0 (fnOf 86).results.toList K) := by kernel_rfl
theorem m_tierq_Queue_Len_ok {q1 : Option Addr} {w0 : World} {K : Value → World → Prop} (h : m_tierq_Queue_Len q1 w0 K) : CallsV P 86 #[(.pointer q1)] w0 K :=
  func_sound W2 func_86 body_86 m_tierq_Queue_Len_owed (Eq.mp (m_tierq_Queue_Len_eq q1 w0 K) h)


/-- (*overfall/tierq.Queue).Count -/
def m_tierq_Queue_Count (q1 : Option Addr) (tier2 : Int) (w0 : World) (K : Value → World → Prop) : Prop :=
  (if (Option.isNone q1) = true then K (.int .i64 0) w0 else Nn q1 fun q3 => ∃ (p4 : Option Addr), World.cell? w0 (q3.add 1) = some (.pointer p4) ∧ CallsV P 184 #[(.pointer p4), (.int .i64 tier2)] w0 fun v5 w6 => ∃ (n7 : Int), v5 = (.int .i64 n7) ∧ K (.int .i64 n7) w6)

theorem func_132 : P.funcs[132]? = some (fnOf 132) := by kernel_rfl
theorem body_132 : (fnOf 132).body = some (bodyOf 132) := by kernel_rfl
theorem m_tierq_Queue_Count_owed : Owed P O0 (bodyOf 132) 1 := owed_of (cast (by kernel_rfl) True.intro)
theorem m_tierq_Queue_Count_eq (q1 : Option Addr) (tier2 : Int) (w0 : World) (K : Value → World → Prop) : m_tierq_Queue_Count q1 tier2 w0 K = evCode T0 P O0 (bodyOf 132) 1 (env0 (Array.toList #[(.pointer q1), (.int .i64 tier2)]) (fnOf 132).ntmps) w0 (endK T0 (fnOf 132).results.toList K) := by kernel_rfl
theorem m_tierq_Queue_Count_ok {q1 : Option Addr} {tier2 : Int} {w0 : World} {K : Value → World → Prop} (h : m_tierq_Queue_Count q1 tier2 w0 K) : CallsV P 132 #[(.pointer q1), (.int .i64 tier2)] w0 K :=
  func_sound W2 func_132 body_132 m_tierq_Queue_Count_owed (Eq.mp (m_tierq_Queue_Count_eq q1 tier2 w0 K) h)


/-- (*overfall/tierq.Queue).handle -/
def m_tierq_Queue_handle (q1 : Option Addr) (i2 : Int) (ok3 : Bool) (w0 : World) (K : Value → World → Prop) : Prop :=
  (if (!ok3) = true then K (.tuple #[(.int .u64 0), (.bool false)]) w0 else Nn q1 fun q4 => ∃ (sA5 : Option Addr) (sL6 : Nat) (sC7 : Nat), World.cell? w0 (q4.add 3) = some (.slice sA5 sL6 sC7) ∧ Ix sA5 sL6 i2 fun a8 => ∃ (n9 : Int), World.cell? w0 (a8.add (Int.toNat i2 * 1)) = some (.int .u64 n9) ∧ K (.tuple #[(.int .u64 n9), (.bool true)]) w0)

theorem func_176 : P.funcs[176]? = some (fnOf 176) := by kernel_rfl
theorem body_176 : (fnOf 176).body = some (bodyOf 176) := by kernel_rfl
theorem m_tierq_Queue_handle_owed : Owed P O0 (bodyOf 176) 1 := owed_of (cast (by kernel_rfl) True.intro)
theorem m_tierq_Queue_handle_eq (q1 : Option Addr) (i2 : Int) (ok3 : Bool) (w0 : World) (K : Value → World → Prop) : m_tierq_Queue_handle q1 i2 ok3 w0 K = evCode T0 P O0 (bodyOf 176) 1 (env0 (Array.toList #[(.pointer q1), (.int .i64 i2), (.bool ok3)]) (fnOf 176).ntmps) w0 (endK T0 (fnOf 176).results.toList K) := by kernel_rfl
theorem m_tierq_Queue_handle_ok {q1 : Option Addr} {i2 : Int} {ok3 : Bool} {w0 : World} {K : Value → World → Prop} (h : m_tierq_Queue_handle q1 i2 ok3 w0 K) : CallsV P 176 #[(.pointer q1), (.int .i64 i2), (.bool ok3)] w0 K :=
  func_sound W2 func_176 body_176 m_tierq_Queue_handle_owed (Eq.mp (m_tierq_Queue_handle_eq q1 i2 ok3 w0 K) h)


/-- (*overfall/tierq.Queue).Head -/
def m_tierq_Queue_Head (q1 : Option Addr) (tier2 : Int) (w0 : World) (K : Value → World → Prop) : Prop :=
  (if (Option.isNone q1) = true then K (.tuple #[(.int .u64 0), (.bool false)]) w0 else Nn q1 fun q3 => ∃ (p4 : Option Addr), World.cell? w0 (q3.add 1) = some (.pointer p4) ∧ CallsV P 185 #[(.pointer p4), (.int .i64 tier2)] w0 fun v5 w6 => ∃ (n7 : Int) (b8 : Bool), v5 = (.tuple #[(.int .i64 n7), (.bool b8)]) ∧ CallsV P 176 #[(.pointer q1), (.int .i64 n7), (.bool b8)] w6 fun v9 w10 => ∃ (n11 : Int) (b12 : Bool), v9 = (.tuple #[(.int .u64 n11), (.bool b12)]) ∧ K (.tuple #[(.int .u64 n11), (.bool b12)]) w10)

theorem func_135 : P.funcs[135]? = some (fnOf 135) := by kernel_rfl
theorem body_135 : (fnOf 135).body = some (bodyOf 135) := by kernel_rfl
theorem m_tierq_Queue_Head_owed : Owed P O0 (bodyOf 135) 1 := owed_of (cast (by kernel_rfl) True.intro)
theorem m_tierq_Queue_Head_eq (q1 : Option Addr) (tier2 : Int) (w0 : World) (K : Value → World → Prop) : m_tierq_Queue_Head q1 tier2 w0 K = evCode T0 P O0 (bodyOf 135) 1 (env0 (Array.toList #[(.pointer q1), (.int .i64 tier2)]) (fnOf 135).ntmps) w0 (endK T0 (fnOf 135).results.toList K) := by kernel_rfl
theorem m_tierq_Queue_Head_ok {q1 : Option Addr} {tier2 : Int} {w0 : World} {K : Value → World → Prop} (h : m_tierq_Queue_Head q1 tier2 w0 K) : CallsV P 135 #[(.pointer q1), (.int .i64 tier2)] w0 K :=
  func_sound W2 func_135 body_135 m_tierq_Queue_Head_owed (Eq.mp (m_tierq_Queue_Head_eq q1 tier2 w0 K) h)


/-- (*overfall/tierq.Queue).Tail -/
def m_tierq_Queue_Tail (q1 : Option Addr) (tier2 : Int) (w0 : World) (K : Value → World → Prop) : Prop :=
  (if (Option.isNone q1) = true then K (.tuple #[(.int .u64 0), (.bool false)]) w0 else Nn q1 fun q3 => ∃ (p4 : Option Addr), World.cell? w0 (q3.add 1) = some (.pointer p4) ∧ CallsV P 177 #[(.pointer p4), (.int .i64 tier2)] w0 fun v5 w6 => ∃ (n7 : Int) (b8 : Bool), v5 = (.tuple #[(.int .i64 n7), (.bool b8)]) ∧ CallsV P 176 #[(.pointer q1), (.int .i64 n7), (.bool b8)] w6 fun v9 w10 => ∃ (n11 : Int) (b12 : Bool), v9 = (.tuple #[(.int .u64 n11), (.bool b12)]) ∧ K (.tuple #[(.int .u64 n11), (.bool b12)]) w10)

theorem func_128 : P.funcs[128]? = some (fnOf 128) := by kernel_rfl
theorem body_128 : (fnOf 128).body = some (bodyOf 128) := by kernel_rfl
theorem m_tierq_Queue_Tail_owed : Owed P O0 (bodyOf 128) 1 := owed_of (cast (by kernel_rfl) True.intro)
theorem m_tierq_Queue_Tail_eq (q1 : Option Addr) (tier2 : Int) (w0 : World) (K : Value → World → Prop) : m_tierq_Queue_Tail q1 tier2 w0 K = evCode T0 P O0 (bodyOf 128) 1 (env0 (Array.toList #[(.pointer q1), (.int .i64 tier2)]) (fnOf 128).ntmps) w0 (endK T0 (fnOf 128).results.toList K) := by kernel_rfl
theorem m_tierq_Queue_Tail_ok {q1 : Option Addr} {tier2 : Int} {w0 : World} {K : Value → World → Prop} (h : m_tierq_Queue_Tail q1 tier2 w0 K) : CallsV P 128 #[(.pointer q1), (.int .i64 tier2)] w0 K :=
  func_sound W2 func_128 body_128 m_tierq_Queue_Tail_owed (Eq.mp (m_tierq_Queue_Tail_eq q1 tier2 w0 K) h)


/-- (*overfall/tierq.Queue).Get -/
def m_tierq_Queue_Get (q1 : Option Addr) (h2 : Int) (w0 : World) (K : Value → World → Prop) : Prop :=
  Al #[(.int .u64 0), (.int .i64 0), (.int .i64 0), (.int .i64 0), (.int .i64 0)] 130 w0 fun b3 w4 => (if (Option.isNone q1) = true then St ((⟨b3, 0, none⟩ : Addr).add 0) (.int .u64 0) w4 fun w5 => St ((⟨b3, 0, none⟩ : Addr).add 1) (.int .i64 0) w5 fun w6 => St ((⟨b3, 0, none⟩ : Addr).add 2) (.int .i64 0) w6 fun w7 => St ((⟨b3, 0, none⟩ : Addr).add 3) (.int .i64 0) w7 fun w8 => St ((⟨b3, 0, none⟩ : Addr).add 4) (.int .i64 0) w8 fun w9 => ∃ (r10 : Int), World.cell? w9 ((⟨b3, 0, none⟩ : Addr).add 0) = some (.int .u64 r10) ∧ ∃ (r11 : Int), World.cell? w9 ((⟨b3, 0, none⟩ : Addr).add 1) = some (.int .i64 r11) ∧ ∃ (r12 : Int), World.cell? w9 ((⟨b3, 0, none⟩ : Addr).add 2) = some (.int .i64 r12) ∧ ∃ (r13 : Int), World.cell? w9 ((⟨b3, 0, none⟩ : Addr).add 3) = some (.int .i64 r13) ∧ ∃ (r14 : Int), World.cell? w9 ((⟨b3, 0, none⟩ : Addr).add 4) = some (.int .i64 r14) ∧ K (.tuple #[(.agg #[(.int .u64 r10), (.int .i64 r11), (.int .i64 r12), (.int .i64 r13), (.int .i64 r14)]), (.int .i64 3)]) w9 else Nn q1 fun q15 => ∃ (p16 : Option Addr), World.cell? w4 (q15.add 0) = some (.pointer p16) ∧ CallsV P 149 #[(.pointer p16), (.int .u64 h2)] w4 fun v17 w18 => ∃ (n19 : Int) (n20 : Int) (n21 : Int) (n22 : Int) (n23 : Int) (n24 : Int), v17 = (.tuple #[(.agg #[(.int .u64 n19), (.int .i64 n20), (.int .i64 n21), (.int .i64 n22), (.int .i64 n23)]), (.int .i64 n24)]) ∧ St ((⟨b3, 0, none⟩ : Addr).add 0) (.int .u64 n19) w18 fun w25 => St ((⟨b3, 0, none⟩ : Addr).add 1) (.int .i64 n20) w25 fun w26 => St ((⟨b3, 0, none⟩ : Addr).add 2) (.int .i64 n21) w26 fun w27 => St ((⟨b3, 0, none⟩ : Addr).add 3) (.int .i64 n22) w27 fun w28 => St ((⟨b3, 0, none⟩ : Addr).add 4) (.int .i64 n23) w28 fun w29 => ∃ (r30 : Int), World.cell? w29 ((⟨b3, 0, none⟩ : Addr).add 0) = some (.int .u64 r30) ∧ ∃ (r31 : Int), World.cell? w29 ((⟨b3, 0, none⟩ : Addr).add 1) = some (.int .i64 r31) ∧ ∃ (r32 : Int), World.cell? w29 ((⟨b3, 0, none⟩ : Addr).add 2) = some (.int .i64 r32) ∧ ∃ (r33 : Int), World.cell? w29 ((⟨b3, 0, none⟩ : Addr).add 3) = some (.int .i64 r33) ∧ ∃ (r34 : Int), World.cell? w29 ((⟨b3, 0, none⟩ : Addr).add 4) = some (.int .i64 r34) ∧ K (.tuple #[(.agg #[(.int .u64 r30), (.int .i64 r31), (.int .i64 r32), (.int .i64 r33), (.int .i64 r34)]), (.int .i64 n24)]) w29)

theorem func_136 : P.funcs[136]? = some (fnOf 136) := by kernel_rfl
theorem body_136 : (fnOf 136).body = some (bodyOf 136) := by kernel_rfl
theorem m_tierq_Queue_Get_owed : Owed P O0 (bodyOf 136) 1 := owed_of (cast (by kernel_rfl) True.intro)
theorem m_tierq_Queue_Get_eq (q1 : Option Addr) (h2 : Int) (w0 : World) (K : Value → World → Prop) : m_tierq_Queue_Get q1 h2 w0 K = evCode T0 P O0 (bodyOf 136) 1 (env0 (Array.toList #[(.pointer q1), (.int .u64 h2)]) (fnOf 136).ntmps) w0 (endK T0 (fnOf 136).results.toList K) := by kernel_rfl
theorem m_tierq_Queue_Get_ok {q1 : Option Addr} {h2 : Int} {w0 : World} {K : Value → World → Prop} (h : m_tierq_Queue_Get q1 h2 w0 K) : CallsV P 136 #[(.pointer q1), (.int .u64 h2)] w0 K :=
  func_sound W2 func_136 body_136 m_tierq_Queue_Get_owed (Eq.mp (m_tierq_Queue_Get_eq q1 h2 w0 K) h)


def m_tierq_Queue_Put_c3 (vs : List Value) (w0 : World) (out : Nat × List Value → World → Prop) : Prop :=
  match vs with
  | [.pointer q13, .pointer (some r14)] => Nn q13 fun q15 => ∃ (p16 : Option Addr), World.cell? (World.drew w0) (q15.add 0) = some (.pointer p16) ∧ ∃ (n17 : Int), World.cell? (World.drew w0) (r14.add 0) = some (.int .u64 n17) ∧ ∃ (n18 : Int), World.cell? (World.drew w0) (r14.add 1) = some (.int .i64 n18) ∧ ∃ (n19 : Int), World.cell? (World.drew w0) (r14.add 2) = some (.int .i64 n19) ∧ ∃ (n20 : Int), World.cell? (World.drew w0) (r14.add 3) = some (.int .i64 n20) ∧ ∃ (n21 : Int), World.cell? (World.drew w0) (r14.add 4) = some (.int .i64 n21) ∧ CallsV P 180 #[(.pointer p16), (.agg #[(.int .u64 n17), (.int .i64 n18), (.int .i64 n19), (.int .i64 n20), (.int .i64 n21)])] (World.drew w0) fun v22 w23 => ∃ (n24 : Int) (n25 : Int), v22 = (.tuple #[(.int .u64 n24), (.int .i64 n25)]) ∧ (if (!decide (n25 = 0)) = true then out (0, [(.int .u64 0), (.int .i64 n25)]) w23 else CallsV P 181 #[(.int .u64 n24)] w23 fun v26 w27 => ∃ (n28 : Int), v26 = (.int .i64 n28) ∧ Nn q13 fun q29 => ∃ (sA30 : Option Addr) (sL31 : Nat) (sC32 : Nat), World.cell? w27 (q29.add 3) = some (.slice sA30 sL31 sC32) ∧ Ix sA30 sL31 n28 fun a33 => St ((a33.add (Int.toNat n28 * 1)).add 0) (.int .u64 n24) w27 fun w34 => Nn q13 fun q35 => ∃ (p36 : Option Addr), World.cell? (World.drew w34) (q35.add 1) = some (.pointer p36) ∧ ∃ (n37 : Int), World.cell? (World.drew w34) (r14.add 1) = some (.int .i64 n37) ∧ CallsV P 182 #[(.pointer p36), (.int .i64 n37), (.int .i64 n28)] (World.drew w34) fun v38 w39 => ∃ (n40 : Int), v38 = (.int .i64 n40) ∧ Nn q13 fun q41 => ∃ (p42 : Option Addr), World.cell? (World.drew w39) (q41.add 2) = some (.pointer p42) ∧ ∃ (n43 : Int), World.cell? (World.drew w39) (r14.add 3) = some (.int .i64 n43) ∧ ∃ (n44 : Int), World.cell? (World.drew w39) (r14.add 0) = some (.int .u64 n44) ∧ CallsV P 183 #[(.pointer p42), (.int .i64 n28), (.int .i64 n43), (.int .u64 n44)] (World.drew w39) fun v45 w46 => ∃ (n47 : Int), v45 = (.int .i64 n47) ∧ out (0, [(.int .u64 n24), (.int .i64 0)]) w46)
  | _ => False

def m_tierq_Queue_Put_c3_o (y : Nat × List Value) (k0 : Int → Int → Prop) : Prop :=
  match y with
  | (0, [.int .u64 n48, .int .i64 n49]) => k0 n48 n49
  | _ => False

/-- (*overfall/tierq.Queue).Put -/
def m_tierq_Queue_Put (q1 : Option Addr) (r2 : Int) (r3 : Int) (r4 : Int) (r5 : Int) (r6 : Int) (w0 : World) (K : Value → World → Prop) : Prop :=
  Al #[(.int .u64 r2), (.int .i64 r3), (.int .i64 r4), (.int .i64 r5), (.int .i64 r6)] 130 w0 fun b7 w8 => (if (Option.isNone q1) = true then K (.tuple #[(.int .u64 0), (.int .i64 3)]) w8 else ∃ (n9 : Int), World.cell? (World.drew w8) ((⟨b7, 0, none⟩ : Addr).add 1) = some (.int .i64 n9) ∧ (if (decide (n9 < 0)) = true then K (.tuple #[(.int .u64 0), (.int .i64 1)]) (World.drew w8) else ∃ (n10 : Int), World.cell? (World.drew w8) ((⟨b7, 0, none⟩ : Addr).add 1) = some (.int .i64 n10) ∧ Nn q1 fun q11 => ∃ (n12 : Int), World.cell? (World.drew w8) (q11.add 4) = some (.int .i64 n12) ∧ (if (decide (n12 ≤ n10)) = true then K (.tuple #[(.int .u64 0), (.int .i64 1)]) (World.drew w8) else m_tierq_Queue_Put_c3 [(.pointer q1), (.pointer (some (⟨b7, 0, none⟩ : Addr)))] (World.drew w8) fun y51 w50 => m_tierq_Queue_Put_c3_o y51 (fun n52 n53 => K (.tuple #[(.int .u64 n52), (.int .i64 n53)]) w50))))

theorem func_130 : P.funcs[130]? = some (fnOf 130) := by kernel_rfl
theorem body_130 : (fnOf 130).body = some (bodyOf 130) := by kernel_rfl
def m_tierq_Queue_Put_c3_p (y : Nat × List Value) (k : Nat × List Value → Prop) : Prop := m_tierq_Queue_Put_c3_o y (fun n48 n49 => k (0, [(.int .u64 n48), (.int .i64 n49)]))
theorem m_tierq_Queue_Put_c3_pok : ∀ y k, m_tierq_Queue_Put_c3_p y k → k y := by
  intro y k h
  unfold m_tierq_Queue_Put_c3_p m_tierq_Queue_Put_c3_o at h
  split at h <;> first | exact h | exact h.elim
def m_tierq_Queue_Put_c3_E : Env → World → Kont → Prop := (fun e w k => takeK 65 [0, 3] e fun vs => m_tierq_Queue_Put_c3 vs w fun y w => m_tierq_Queue_Put_c3_p y fun y => outK 65 [(.ret, [4, 5])] k y w)
def O_m_tierq_Queue_Put : Orac := { loop := fun p => (fun _ _ _ => False), cut := fun p => cond (Nat.beq p 3) (some m_tierq_Queue_Put_c3_E) (none) }
theorem m_tierq_Queue_Put_c3_owed : Owed P O_m_tierq_Queue_Put (codeAt (bodyOf 130) [true, true]) 7 := owed_of (cast (by kernel_rfl) True.intro)
theorem m_tierq_Queue_Put_c3_ok : Sound P (codeAt (bodyOf 130) [true, true]) m_tierq_Queue_Put_c3_E := by
  refine piece_sound (evCode_sound W2 O_m_tierq_Queue_Put (codeAt (bodyOf 130) [true, true]) 7 m_tierq_Queue_Put_c3_owed) 65 [0, 3] [(.ret, [4, 5])] m_tierq_Queue_Put_c3 ?_ m_tierq_Queue_Put_c3_p m_tierq_Queue_Put_c3_pok
  intro vs w out h
  unfold m_tierq_Queue_Put_c3 at h
  split at h
  · exact cast (by kernel_rfl) h
  · exact h.elim
theorem m_tierq_Queue_Put_owed : Owed P O_m_tierq_Queue_Put (bodyOf 130) 1 := owed_of (cast (by kernel_rfl) m_tierq_Queue_Put_c3_ok)
theorem m_tierq_Queue_Put_eq (q1 : Option Addr) (r2 : Int) (r3 : Int) (r4 : Int) (r5 : Int) (r6 : Int) (w0 : World) (K : Value → World → Prop) : m_tierq_Queue_Put q1 r2 r3 r4 r5 r6 w0 K = evCode T0 P O_m_tierq_Queue_Put (bodyOf 130) 1 (env0 (Array.toList #[(.pointer q1), (.agg #[(.int .u64 r2), (.int .i64 r3), (.int .i64 r4), (.int .i64 r5), (.int .i64 r6)])]) (fnOf 130).ntmps) w0 (endK T0 (fnOf 130).results.toList K) := by kernel_rfl
theorem m_tierq_Queue_Put_ok {q1 : Option Addr} {r2 : Int} {r3 : Int} {r4 : Int} {r5 : Int} {r6 : Int} {w0 : World} {K : Value → World → Prop} (h : m_tierq_Queue_Put q1 r2 r3 r4 r5 r6 w0 K) : CallsV P 130 #[(.pointer q1), (.agg #[(.int .u64 r2), (.int .i64 r3), (.int .i64 r4), (.int .i64 r5), (.int .i64 r6)])] w0 K :=
  func_sound W2 func_130 body_130 m_tierq_Queue_Put_owed (Eq.mp (m_tierq_Queue_Put_eq q1 r2 r3 r4 r5 r6 w0 K) h)


def m_tierq_Queue_First_l60 (vs : List Value) (w0 : World) (next : List Value → World → Prop) (out : Nat × List Value → World → Prop) : Prop :=
  match vs with
  | [.pointer q5, .int .i64 t6] => CallsV P 132 #[(.pointer q5), (.int .i64 t6)] w0 fun v7 w8 => ∃ (n9 : Int), v7 = (.int .i64 n9) ∧ (if (decide (n9 = 0)) = true then next [(.pointer q5), (.int .i64 (IntKind.wrap .i64 (t6 + 1)))] w8 else out (0, [(.int .i64 t6)]) w8)
  | _ => False

def m_tierq_Queue_First_l60_o (y : Nat × List Value) (k0 : Int → Prop) : Prop :=
  match y with
  | (0, [.int .i64 t10]) => k0 t10
  | _ => False

/-- (*overfall/tierq.Queue).First -/
def m_tierq_Queue_First (q1 : Option Addr) (w0 : World) (K : Value → World → Prop) : Prop :=
  CallsV P 86 #[(.pointer q1)] w0 fun v2 w3 => ∃ (n4 : Int), v2 = (.int .i64 n4) ∧ (if (decide (n4 = 0)) = true then K (.tuple #[(.int .i64 0), (.bool false)]) w3 else LoopP m_tierq_Queue_First_l60 [(.pointer q1), (.int .i64 0)] w3 fun y12 w11 => m_tierq_Queue_First_l60_o y12 (fun t13 => K (.tuple #[(.int .i64 t13), (.bool true)]) w11))

theorem func_134 : P.funcs[134]? = some (fnOf 134) := by kernel_rfl
theorem body_134 : (fnOf 134).body = some (bodyOf 134) := by kernel_rfl
def m_tierq_Queue_First_l60_p (y : Nat × List Value) (k : Nat × List Value → Prop) : Prop := m_tierq_Queue_First_l60_o y (fun t10 => k (0, [(.int .i64 t10)]))
theorem m_tierq_Queue_First_l60_pok : ∀ y k, m_tierq_Queue_First_l60_p y k → k y := by
  intro y k h
  unfold m_tierq_Queue_First_l60_p m_tierq_Queue_First_l60_o at h
  split at h <;> first | exact h | exact h.elim
def m_tierq_Queue_First_l60_E : Env → World → Kont → Prop := (fun e w k => takeK 15 [0, 4] e fun vs => LoopP m_tierq_Queue_First_l60 vs w fun y w => m_tierq_Queue_First_l60_p y fun y => outK 15 [(.exit 0, [4])] k y w)
def O_m_tierq_Queue_First : Orac := { loop := fun p => cond (Nat.beq p 60) m_tierq_Queue_First_l60_E ((fun _ _ _ => False)), cut := fun p => none }
theorem m_tierq_Queue_First_l60_owed : Owed P O_m_tierq_Queue_First (loopBody (codeAt (bodyOf 134) [true, true, true, false, false])) 120 := owed_of (cast (by kernel_rfl) True.intro)
theorem m_tierq_Queue_First_l60_ok : Sound P (.loop (loopBody (codeAt (bodyOf 134) [true, true, true, false, false]))) m_tierq_Queue_First_l60_E := by
  refine loop_sound (evCode_sound W2 O_m_tierq_Queue_First (loopBody (codeAt (bodyOf 134) [true, true, true, false, false])) 120 m_tierq_Queue_First_l60_owed) 15 [0, 4] [(.exit 0, [4])] m_tierq_Queue_First_l60 ?_ m_tierq_Queue_First_l60_p m_tierq_Queue_First_l60_pok
  intro vs w next out h
  unfold m_tierq_Queue_First_l60 at h
  split at h
  · exact cast (by kernel_rfl) h
  · exact h.elim
theorem m_tierq_Queue_First_owed : Owed P O_m_tierq_Queue_First (bodyOf 134) 1 := owed_of (cast (by kernel_rfl) m_tierq_Queue_First_l60_ok)
theorem m_tierq_Queue_First_eq (q1 : Option Addr) (w0 : World) (K : Value → World → Prop) : m_tierq_Queue_First q1 w0 K = evCode T0 P O_m_tierq_Queue_First (bodyOf 134) 1 (env0 (Array.toList #[(.pointer q1)]) (fnOf 134).ntmps) w0 (endK T0 (fnOf 134).results.toList K) := by kernel_rfl
theorem m_tierq_Queue_First_ok {q1 : Option Addr} {w0 : World} {K : Value → World → Prop} (h : m_tierq_Queue_First q1 w0 K) : CallsV P 134 #[(.pointer q1)] w0 K :=
  func_sound W2 func_134 body_134 m_tierq_Queue_First_owed (Eq.mp (m_tierq_Queue_First_eq q1 w0 K) h)


def m_tierq_Queue_Last_l60 (vs : List Value) (w0 : World) (next : List Value → World → Prop) (out : Nat × List Value → World → Prop) : Prop :=
  match vs with
  | [.pointer q7, .int .i64 t8] => CallsV P 132 #[(.pointer q7), (.int .i64 t8)] w0 fun v9 w10 => ∃ (n11 : Int), v9 = (.int .i64 n11) ∧ (if (decide (n11 = 0)) = true then next [(.pointer q7), (.int .i64 (IntKind.wrap .i64 (t8 - 1)))] w10 else out (0, [(.int .i64 t8)]) w10)
  | _ => False

def m_tierq_Queue_Last_l60_o (y : Nat × List Value) (k0 : Int → Prop) : Prop :=
  match y with
  | (0, [.int .i64 t12]) => k0 t12
  | _ => False

/-- (*overfall/tierq.Queue).Last -/
def m_tierq_Queue_Last (q1 : Option Addr) (w0 : World) (K : Value → World → Prop) : Prop :=
  CallsV P 86 #[(.pointer q1)] w0 fun v2 w3 => ∃ (n4 : Int), v2 = (.int .i64 n4) ∧ (if (decide (n4 = 0)) = true then K (.tuple #[(.int .i64 0), (.bool false)]) w3 else Nn q1 fun q5 => ∃ (n6 : Int), World.cell? w3 (q5.add 4) = some (.int .i64 n6) ∧ LoopP m_tierq_Queue_Last_l60 [(.pointer q1), (.int .i64 (IntKind.wrap .i64 (n6 - 1)))] w3 fun y14 w13 => m_tierq_Queue_Last_l60_o y14 (fun t15 => K (.tuple #[(.int .i64 t15), (.bool true)]) w13))

theorem func_127 : P.funcs[127]? = some (fnOf 127) := by kernel_rfl
theorem body_127 : (fnOf 127).body = some (bodyOf 127) := by kernel_rfl
def m_tierq_Queue_Last_l60_p (y : Nat × List Value) (k : Nat × List Value → Prop) : Prop := m_tierq_Queue_Last_l60_o y (fun t12 => k (0, [(.int .i64 t12)]))
theorem m_tierq_Queue_Last_l60_pok : ∀ y k, m_tierq_Queue_Last_l60_p y k → k y := by
  intro y k h
  unfold m_tierq_Queue_Last_l60_p m_tierq_Queue_Last_l60_o at h
  split at h <;> first | exact h | exact h.elim
def m_tierq_Queue_Last_l60_E : Env → World → Kont → Prop := (fun e w k => takeK 20 [0, 4] e fun vs => LoopP m_tierq_Queue_Last_l60 vs w fun y w => m_tierq_Queue_Last_l60_p y fun y => outK 20 [(.exit 0, [4])] k y w)
def O_m_tierq_Queue_Last : Orac := { loop := fun p => cond (Nat.beq p 60) m_tierq_Queue_Last_l60_E ((fun _ _ _ => False)), cut := fun p => none }
theorem m_tierq_Queue_Last_l60_owed : Owed P O_m_tierq_Queue_Last (loopBody (codeAt (bodyOf 127) [true, true, true, false, false])) 120 := owed_of (cast (by kernel_rfl) True.intro)
theorem m_tierq_Queue_Last_l60_ok : Sound P (.loop (loopBody (codeAt (bodyOf 127) [true, true, true, false, false]))) m_tierq_Queue_Last_l60_E := by
  refine loop_sound (evCode_sound W2 O_m_tierq_Queue_Last (loopBody (codeAt (bodyOf 127) [true, true, true, false, false])) 120 m_tierq_Queue_Last_l60_owed) 20 [0, 4] [(.exit 0, [4])] m_tierq_Queue_Last_l60 ?_ m_tierq_Queue_Last_l60_p m_tierq_Queue_Last_l60_pok
  intro vs w next out h
  unfold m_tierq_Queue_Last_l60 at h
  split at h
  · exact cast (by kernel_rfl) h
  · exact h.elim
theorem m_tierq_Queue_Last_owed : Owed P O_m_tierq_Queue_Last (bodyOf 127) 1 := owed_of (cast (by kernel_rfl) m_tierq_Queue_Last_l60_ok)
theorem m_tierq_Queue_Last_eq (q1 : Option Addr) (w0 : World) (K : Value → World → Prop) : m_tierq_Queue_Last q1 w0 K = evCode T0 P O_m_tierq_Queue_Last (bodyOf 127) 1 (env0 (Array.toList #[(.pointer q1)]) (fnOf 127).ntmps) w0 (endK T0 (fnOf 127).results.toList K) := by kernel_rfl
theorem m_tierq_Queue_Last_ok {q1 : Option Addr} {w0 : World} {K : Value → World → Prop} (h : m_tierq_Queue_Last q1 w0 K) : CallsV P 127 #[(.pointer q1)] w0 K :=
  func_sound W2 func_127 body_127 m_tierq_Queue_Last_owed (Eq.mp (m_tierq_Queue_Last_eq q1 w0 K) h)


/-- (*overfall/tierq.Queue).Take -/
def m_tierq_Queue_Take (q1 : Option Addr) (h2 : Int) (w0 : World) (K : Value → World → Prop) : Prop :=
  Al #[(.int .u64 0), (.int .i64 0), (.int .i64 0), (.int .i64 0), (.int .i64 0)] 130 w0 fun b3 w4 => CallsV P 136 #[(.pointer q1), (.int .u64 h2)] w4 fun v5 w6 => ∃ (n7 : Int) (n8 : Int) (n9 : Int) (n10 : Int) (n11 : Int) (n12 : Int), v5 = (.tuple #[(.agg #[(.int .u64 n7), (.int .i64 n8), (.int .i64 n9), (.int .i64 n10), (.int .i64 n11)]), (.int .i64 n12)]) ∧ Al #[(.int .u64 0), (.int .i64 0), (.int .i64 0), (.int .i64 0), (.int .i64 0)] 130 w6 fun b13 w14 => St ((⟨b13, 0, none⟩ : Addr).add 0) (.int .u64 n7) w14 fun w15 => St ((⟨b13, 0, none⟩ : Addr).add 1) (.int .i64 n8) w15 fun w16 => St ((⟨b13, 0, none⟩ : Addr).add 2) (.int .i64 n9) w16 fun w17 => St ((⟨b13, 0, none⟩ : Addr).add 3) (.int .i64 n10) w17 fun w18 => St ((⟨b13, 0, none⟩ : Addr).add 4) (.int .i64 n11) w18 fun w19 => (if (!decide (n12 = 0)) = true then ∃ (n20 : Int), World.cell? w19 ((⟨b13, 0, none⟩ : Addr).add 0) = some (.int .u64 n20) ∧ ∃ (n21 : Int), World.cell? w19 ((⟨b13, 0, none⟩ : Addr).add 1) = some (.int .i64 n21) ∧ ∃ (n22 : Int), World.cell? w19 ((⟨b13, 0, none⟩ : Addr).add 2) = some (.int .i64 n22) ∧ ∃ (n23 : Int), World.cell? w19 ((⟨b13, 0, none⟩ : Addr).add 3) = some (.int .i64 n23) ∧ ∃ (n24 : Int), World.cell? w19 ((⟨b13, 0, none⟩ : Addr).add 4) = some (.int .i64 n24) ∧ St ((⟨b3, 0, none⟩ : Addr).add 0) (.int .u64 n20) w19 fun w25 => St ((⟨b3, 0, none⟩ : Addr).add 1) (.int .i64 n21) w25 fun w26 => St ((⟨b3, 0, none⟩ : Addr).add 2) (.int .i64 n22) w26 fun w27 => St ((⟨b3, 0, none⟩ : Addr).add 3) (.int .i64 n23) w27 fun w28 => St ((⟨b3, 0, none⟩ : Addr).add 4) (.int .i64 n24) w28 fun w29 => ∃ (r30 : Int), World.cell? w29 ((⟨b3, 0, none⟩ : Addr).add 0) = some (.int .u64 r30) ∧ ∃ (r31 : Int), World.cell? w29 ((⟨b3, 0, none⟩ : Addr).add 1) = some (.int .i64 r31) ∧ ∃ (r32 : Int), World.cell? w29 ((⟨b3, 0, none⟩ : Addr).add 2) = some (.int .i64 r32) ∧ ∃ (r33 : Int), World.cell? w29 ((⟨b3, 0, none⟩ : Addr).add 3) = some (.int .i64 r33) ∧ ∃ (r34 : Int), World.cell? w29 ((⟨b3, 0, none⟩ : Addr).add 4) = some (.int .i64 r34) ∧ K (.tuple #[(.agg #[(.int .u64 r30), (.int .i64 r31), (.int .i64 r32), (.int .i64 r33), (.int .i64 r34)]), (.int .i64 n12)]) w29 else Nn q1 fun q35 => ∃ (p36 : Option Addr), World.cell? w19 (q35.add 0) = some (.pointer p36) ∧ CallsV P 222 #[(.pointer p36), (.int .u64 h2)] w19 fun v37 w38 => ∃ (n39 : Int), v37 = (.int .i64 n39) ∧ Nn q1 fun q40 => ∃ (p41 : Option Addr), World.cell? (World.drew w38) (q40.add 1) = some (.pointer p41) ∧ ∃ (n42 : Int), QCall P 181 #[(.int .u64 h2)] (World.drew w38) (.int .i64 n42) ∧ ∀ w43 : World, Below (World.heap (World.drew w38)).size (World.drew w38) w43 → CallsV P 223 #[(.pointer p41), (.int .i64 n42)] w43 fun v44 w45 => ∃ (n46 : Int), v44 = (.int .i64 n46) ∧ Nn q1 fun q47 => ∃ (p48 : Option Addr), World.cell? (World.drew w45) (q47.add 2) = some (.pointer p48) ∧ ∃ (n49 : Int), QCall P 181 #[(.int .u64 h2)] (World.drew w45) (.int .i64 n49) ∧ ∀ w50 : World, Below (World.heap (World.drew w45)).size (World.drew w45) w50 → CallsV P 224 #[(.pointer p48), (.int .i64 n49)] w50 fun v51 w52 => ∃ (n53 : Int), v51 = (.int .i64 n53) ∧ ∃ (n54 : Int), World.cell? w52 ((⟨b13, 0, none⟩ : Addr).add 0) = some (.int .u64 n54) ∧ ∃ (n55 : Int), World.cell? w52 ((⟨b13, 0, none⟩ : Addr).add 1) = some (.int .i64 n55) ∧ ∃ (n56 : Int), World.cell? w52 ((⟨b13, 0, none⟩ : Addr).add 2) = some (.int .i64 n56) ∧ ∃ (n57 : Int), World.cell? w52 ((⟨b13, 0, none⟩ : Addr).add 3) = some (.int .i64 n57) ∧ ∃ (n58 : Int), World.cell? w52 ((⟨b13, 0, none⟩ : Addr).add 4) = some (.int .i64 n58) ∧ St ((⟨b3, 0, none⟩ : Addr).add 0) (.int .u64 n54) w52 fun w59 => St ((⟨b3, 0, none⟩ : Addr).add 1) (.int .i64 n55) w59 fun w60 => St ((⟨b3, 0, none⟩ : Addr).add 2) (.int .i64 n56) w60 fun w61 => St ((⟨b3, 0, none⟩ : Addr).add 3) (.int .i64 n57) w61 fun w62 => St ((⟨b3, 0, none⟩ : Addr).add 4) (.int .i64 n58) w62 fun w63 => ∃ (r64 : Int), World.cell? w63 ((⟨b3, 0, none⟩ : Addr).add 0) = some (.int .u64 r64) ∧ ∃ (r65 : Int), World.cell? w63 ((⟨b3, 0, none⟩ : Addr).add 1) = some (.int .i64 r65) ∧ ∃ (r66 : Int), World.cell? w63 ((⟨b3, 0, none⟩ : Addr).add 2) = some (.int .i64 r66) ∧ ∃ (r67 : Int), World.cell? w63 ((⟨b3, 0, none⟩ : Addr).add 3) = some (.int .i64 r67) ∧ ∃ (r68 : Int), World.cell? w63 ((⟨b3, 0, none⟩ : Addr).add 4) = some (.int .i64 r68) ∧ K (.tuple #[(.agg #[(.int .u64 r64), (.int .i64 r65), (.int .i64 r66), (.int .i64 r67), (.int .i64 r68)]), (.int .i64 0)]) w63)

theorem func_178 : P.funcs[178]? = some (fnOf 178) := by kernel_rfl
theorem body_178 : (fnOf 178).body = some (bodyOf 178) := by kernel_rfl
theorem m_tierq_Queue_Take_owed : Owed P O0 (bodyOf 178) 1 := owed_of (cast (by kernel_rfl) True.intro)
theorem m_tierq_Queue_Take_eq (q1 : Option Addr) (h2 : Int) (w0 : World) (K : Value → World → Prop) : m_tierq_Queue_Take q1 h2 w0 K = evCode T0 P O0 (bodyOf 178) 1 (env0 (Array.toList #[(.pointer q1), (.int .u64 h2)]) (fnOf 178).ntmps) w0 (endK T0 (fnOf 178).results.toList K) := by kernel_rfl
theorem m_tierq_Queue_Take_ok {q1 : Option Addr} {h2 : Int} {w0 : World} {K : Value → World → Prop} (h : m_tierq_Queue_Take q1 h2 w0 K) : CallsV P 178 #[(.pointer q1), (.int .u64 h2)] w0 K :=
  func_sound W2 func_178 body_178 m_tierq_Queue_Take_owed (Eq.mp (m_tierq_Queue_Take_eq q1 h2 w0 K) h)


def m_tierq_Queue_Due_l122 (vs : List Value) (w0 : World) (next : List Value → World → Prop) (out : Nat × List Value → World → Prop) : Prop :=
  match vs with
  | [.pointer q10, .slice outA11 outL12 outC13, .slice sA14 sL15 sC16, .int .i64 n17, .int .i64 n18] => (if (decide (n18 < n17)) = true then Ix sA14 sL15 n18 fun a19 => ∃ (n20 : Int), World.cell? w0 (a19.add (Int.toNat n18 * 1)) = some (.int .i64 n20) ∧ Nn q10 fun q21 => ∃ (sA22 : Option Addr) (sL23 : Nat) (sC24 : Nat), World.cell? w0 (q21.add 3) = some (.slice sA22 sL23 sC24) ∧ Ix sA22 sL23 n20 fun a25 => ∃ (n26 : Int), World.cell? w0 (a25.add (Int.toNat n20 * 1)) = some (.int .u64 n26) ∧ Al #[(.int .u64 n26)] 185 w0 fun b27 w28 => RunB P .append #[250, 250] 250 #[false, false] #[(.slice outA11 outL12 outC13), (.slice (some (⟨b27, 0, none⟩ : Addr)) 1 1)] w28 fun v29 w30 => ∃ (sA31 : Option Addr) (sL32 : Nat) (sC33 : Nat), v29 = (.slice sA31 sL32 sC33) ∧ next [(.pointer q10), (.slice sA31 sL32 sC33), (.slice sA14 sL15 sC16), (.int .i64 n17), (.int .i64 (IntKind.wrap .i64 (n18 + 1)))] w30 else out (0, [(.slice outA11 outL12 outC13)]) w0)
  | _ => False

def m_tierq_Queue_Due_l122_o (y : Nat × List Value) (k0 : Option Addr → Nat → Nat → Prop) : Prop :=
  match y with
  | (0, [.slice outA34 outL35 outC36]) => k0 outA34 outL35 outC36
  | _ => False

/-- (*overfall/tierq.Queue).Due -/
def m_tierq_Queue_Due (q1 : Option Addr) (now2 : Int) (w0 : World) (K : Value → World → Prop) : Prop :=
  (if (Option.isNone q1) = true then K (.slice none 0 0) w0 else Nn q1 fun q3 => ∃ (p4 : Option Addr), World.cell? w0 (q3.add 2) = some (.pointer p4) ∧ CallsV P 199 #[(.pointer p4), (.int .i64 now2)] w0 fun v5 w6 => ∃ (sA7 : Option Addr) (sL8 : Nat) (sC9 : Nat), v5 = (.slice sA7 sL8 sC9) ∧ LoopP m_tierq_Queue_Due_l122 [(.pointer q1), (.slice none 0 0), (.slice sA7 sL8 sC9), (.int .i64 ((sL8 : Nat) : Int)), (.int .i64 0)] w6 fun y38 w37 => m_tierq_Queue_Due_l122_o y38 (fun outA39 outL40 outC41 => K (.slice outA39 outL40 outC41) w37))

theorem func_145 : P.funcs[145]? = some (fnOf 145) := by kernel_rfl
theorem body_145 : (fnOf 145).body = some (bodyOf 145) := by kernel_rfl
def m_tierq_Queue_Due_l122_p (y : Nat × List Value) (k : Nat × List Value → Prop) : Prop := m_tierq_Queue_Due_l122_o y (fun outA34 outL35 outC36 => k (0, [(.slice outA34 outL35 outC36)]))
theorem m_tierq_Queue_Due_l122_pok : ∀ y k, m_tierq_Queue_Due_l122_p y k → k y := by
  intro y k h
  unfold m_tierq_Queue_Due_l122_p m_tierq_Queue_Due_l122_o at h
  split at h <;> first | exact h | exact h.elim
def m_tierq_Queue_Due_l122_E : Env → World → Kont → Prop := (fun e w k => takeK 33 [0, 5, 15, 16, 17] e fun vs => LoopP m_tierq_Queue_Due_l122 vs w fun y w => m_tierq_Queue_Due_l122_p y fun y => outK 33 [(.exit 0, [5])] k y w)
def O_m_tierq_Queue_Due : Orac := { loop := fun p => cond (Nat.beq p 122) m_tierq_Queue_Due_l122_E ((fun _ _ _ => False)), cut := fun p => none }
theorem m_tierq_Queue_Due_l122_owed : Owed P O_m_tierq_Queue_Due (loopBody (codeAt (bodyOf 145) [true, true, true, false, true, false])) 244 := owed_of (cast (by kernel_rfl) True.intro)
theorem m_tierq_Queue_Due_l122_ok : Sound P (.loop (loopBody (codeAt (bodyOf 145) [true, true, true, false, true, false]))) m_tierq_Queue_Due_l122_E := by
  refine loop_sound (evCode_sound W2 O_m_tierq_Queue_Due (loopBody (codeAt (bodyOf 145) [true, true, true, false, true, false])) 244 m_tierq_Queue_Due_l122_owed) 33 [0, 5, 15, 16, 17] [(.exit 0, [5])] m_tierq_Queue_Due_l122 ?_ m_tierq_Queue_Due_l122_p m_tierq_Queue_Due_l122_pok
  intro vs w next out h
  unfold m_tierq_Queue_Due_l122 at h
  split at h
  · exact cast (by kernel_rfl) h
  · exact h.elim
theorem m_tierq_Queue_Due_owed : Owed P O_m_tierq_Queue_Due (bodyOf 145) 1 := owed_of (cast (by kernel_rfl) m_tierq_Queue_Due_l122_ok)
theorem m_tierq_Queue_Due_eq (q1 : Option Addr) (now2 : Int) (w0 : World) (K : Value → World → Prop) : m_tierq_Queue_Due q1 now2 w0 K = evCode T0 P O_m_tierq_Queue_Due (bodyOf 145) 1 (env0 (Array.toList #[(.pointer q1), (.int .i64 now2)]) (fnOf 145).ntmps) w0 (endK T0 (fnOf 145).results.toList K) := by kernel_rfl
theorem m_tierq_Queue_Due_ok {q1 : Option Addr} {now2 : Int} {w0 : World} {K : Value → World → Prop} (h : m_tierq_Queue_Due q1 now2 w0 K) : CallsV P 145 #[(.pointer q1), (.int .i64 now2)] w0 K :=
  func_sound W2 func_145 body_145 m_tierq_Queue_Due_owed (Eq.mp (m_tierq_Queue_Due_eq q1 now2 w0 K) h)


end Go.M
