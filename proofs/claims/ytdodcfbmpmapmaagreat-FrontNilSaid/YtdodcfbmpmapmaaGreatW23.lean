/- Proofs about the front of the overload controller, part 23: C44 C45a. -/
import Derived.Test.YtdodcfbmpmapmaaGreatW22
import Derived.Test.YtdodcfbmpmapmaaGreatRows
import Derived.WalkKit
import Derived.ProofKit
import Derived.OpenShut
import Derived.ChangeOld
import Derived.Below
import Derived.Lib.SmallJoins
set_option linter.all false
set_option linter.constructorNameAsVariable false
set_option linter.unusedVariables false
/- FrontNil: for every config, thread, call and time it returns true. No conditions. The join of the walk with the row. -/
set_option linter.all false
set_option maxRecDepth 100000
namespace Go.Proofs.YtdodcfbmpmapmaaGreat
open Go.ChangeShapes Go.WideShapes Go.ChangeAt Go.RowKit Go.Joins Go.Deep

theorem own : ownKnob Tryz.prog.godebug = none := by kernel_rfl
theorem laidOut : laidOutB Tryz.prog = true := by kernel_rfl
theorem cells3 : Tryz.prog.cellsOf 3 = 1 := by kernel_rfl
theorem cells2 : Tryz.prog.cellsOf 2 = 1 := by kernel_rfl
theorem cells22 : Tryz.prog.cellsOf 22 = 1 := by kernel_rfl
theorem cells5 : Tryz.prog.cellsOf 5 = 1 := by kernel_rfl
theorem cells24 : Tryz.prog.cellsOf 24 = 16 := by kernel_rfl
theorem cells32 : Tryz.prog.cellsOf 32 = 4 := by kernel_rfl

section
variable {H : Type} {enc : TypeId × Value → H} {w : World} {base : Nat} {spare : Nat → Bool} {held : Bool}

theorem field_int {n : Nat} {t : TypeId} {k : IntKind} {cs : List Value} {i : Nat} {x : Option (DataW H × List MemPlace)} (hu : Tryz.prog.underlying t = some (.int k)) (hc : Tryz.prog.cellsOf t = 1) (hx : ∃ y, x = some y)
    (h : DataW.trod enc Tryz.prog w base spare held n t (List.take (Tryz.prog.cellsOf t) (List.drop i cs)) = x) : ∃ a, (cs.drop i).take 1 = [.int k a] := by
  obtain ⟨y, rfl⟩ := hx
  rw [hc] at h
  obtain ⟨a, h1, _⟩ := DataW.trod_int hu h
  exact ⟨a, h1⟩

theorem open_cfg {r : Reach} {b0 : Nat} {v : Value} {d : DataW H} {p : List MemPlace} (hv : Value.okWide Tryz.prog w r b0 24 v) (h : DataW.Trod enc Tryz.prog w base spare held 24 v d p) : ∃ c : Go.M.Cf, v = .agg c.cells := by
  obtain ⟨cs, rfl, hsz⟩ := okWide_struct Tryz.underlying24 hv
  obtain ⟨l⟩ := cs
  obtain ⟨fuel, hf⟩ := h
  obtain ⟨xs, n, _, hx, hlen, hxl, hg⟩ := DataW.trod_struct Tryz.underlying24 hf
  have hxl' : xs.length = 16 := hxl
  have hcl : l.length = 16 := hsz.trans cells24
  have hs : ∀ i, i < 16 → ∃ y, xs[i]? = some y := fun i hi => ⟨_, List.getElem?_eq_getElem (by omega)⟩
  obtain ⟨n0, e0⟩ := field_int Tryz.underlying3 cells3 (hs 0 (by omega)) (hg 0 _ rfl)
  obtain ⟨n1, e1⟩ := field_int Tryz.underlying3 cells3 (hs 1 (by omega)) (hg 1 _ rfl)
  obtain ⟨n2, e2⟩ := field_int Tryz.underlying2 cells2 (hs 2 (by omega)) (hg 2 _ rfl)
  obtain ⟨n3, e3⟩ := field_int Tryz.underlying2 cells2 (hs 3 (by omega)) (hg 3 _ rfl)
  obtain ⟨n4, e4⟩ := field_int Tryz.underlying2 cells2 (hs 4 (by omega)) (hg 4 _ rfl)
  obtain ⟨n5, e5⟩ := field_int Tryz.underlying2 cells2 (hs 5 (by omega)) (hg 5 _ rfl)
  obtain ⟨n6, e6⟩ := field_int Tryz.underlying2 cells2 (hs 6 (by omega)) (hg 6 _ rfl)
  obtain ⟨n7, e7⟩ := field_int Tryz.underlying2 cells2 (hs 7 (by omega)) (hg 7 _ rfl)
  obtain ⟨n8, e8⟩ := field_int Tryz.underlying22 cells22 (hs 8 (by omega)) (hg 8 _ rfl)
  obtain ⟨n9, e9⟩ := field_int Tryz.underlying22 cells22 (hs 9 (by omega)) (hg 9 _ rfl)
  obtain ⟨n10, e10⟩ := field_int Tryz.underlying22 cells22 (hs 10 (by omega)) (hg 10 _ rfl)
  obtain ⟨n11, e11⟩ := field_int Tryz.underlying22 cells22 (hs 11 (by omega)) (hg 11 _ rfl)
  obtain ⟨n12, e12⟩ := field_int Tryz.underlying22 cells22 (hs 12 (by omega)) (hg 12 _ rfl)
  obtain ⟨n13, e13⟩ := field_int Tryz.underlying2 cells2 (hs 13 (by omega)) (hg 13 _ rfl)
  obtain ⟨n14, e14⟩ := field_int Tryz.underlying3 cells3 (hs 14 (by omega)) (hg 14 _ rfl)
  obtain ⟨n15, e15⟩ := field_int Tryz.underlying3 cells3 (hs 15 (by omega)) (hg 15 _ rfl)
  match l, hcl with
  | [c0, c1, c2, c3, c4, c5, c6, c7, c8, c9, c10, c11, c12, c13, c14, c15], _ =>
    obtain rfl : c0 = .int .i64 n0 := by simpa [Value.cells] using e0
    obtain rfl : c1 = .int .i64 n1 := by simpa [Value.cells] using e1
    obtain rfl : c2 = .int .i64 n2 := by simpa [Value.cells] using e2
    obtain rfl : c3 = .int .i64 n3 := by simpa [Value.cells] using e3
    obtain rfl : c4 = .int .i64 n4 := by simpa [Value.cells] using e4
    obtain rfl : c5 = .int .i64 n5 := by simpa [Value.cells] using e5
    obtain rfl : c6 = .int .i64 n6 := by simpa [Value.cells] using e6
    obtain rfl : c7 = .int .i64 n7 := by simpa [Value.cells] using e7
    obtain rfl : c8 = .int .i64 n8 := by simpa [Value.cells] using e8
    obtain rfl : c9 = .int .i64 n9 := by simpa [Value.cells] using e9
    obtain rfl : c10 = .int .i64 n10 := by simpa [Value.cells] using e10
    obtain rfl : c11 = .int .i64 n11 := by simpa [Value.cells] using e11
    obtain rfl : c12 = .int .i64 n12 := by simpa [Value.cells] using e12
    obtain rfl : c13 = .int .i64 n13 := by simpa [Value.cells] using e13
    obtain rfl : c14 = .int .i64 n14 := by simpa [Value.cells] using e14
    obtain rfl : c15 = .int .i64 n15 := by simpa [Value.cells] using e15
    exact ⟨⟨n0, n1, n2, n3, n4, n5, n6, n7, n8, n9, n10, n11, n12, n13, n14, n15⟩, rfl⟩

theorem open_op {r : Reach} {b0 : Nat} {v : Value} {d : DataW H} {p : List MemPlace} (hv : Value.okWide Tryz.prog w r b0 32 v) (h : DataW.Trod enc Tryz.prog w base spare held 32 v d p) : ∃ o : Go.M.Opn, v = o.v := by
  obtain ⟨cs, rfl, hsz⟩ := okWide_struct Tryz.underlying32 hv
  obtain ⟨l⟩ := cs
  obtain ⟨fuel, hf⟩ := h
  obtain ⟨xs, n, _, hx, hlen, hxl, hg⟩ := DataW.trod_struct Tryz.underlying32 hf
  have hxl' : xs.length = 4 := hxl
  have hcl : l.length = 4 := hsz.trans cells32
  have hs : ∀ i, i < 4 → ∃ y, xs[i]? = some y := fun i hi => ⟨_, List.getElem?_eq_getElem (by omega)⟩
  obtain ⟨n0, e0⟩ := field_int Tryz.underlying5 cells5 (hs 0 (by omega)) (hg 0 _ rfl)
  obtain ⟨n1, e1⟩ := field_int Tryz.underlying3 cells3 (hs 1 (by omega)) (hg 1 _ rfl)
  obtain ⟨n2, e2⟩ := field_int Tryz.underlying3 cells3 (hs 2 (by omega)) (hg 2 _ rfl)
  obtain ⟨n3, e3⟩ := field_int Tryz.underlying2 cells2 (hs 3 (by omega)) (hg 3 _ rfl)
  match l, hcl with
  | [c0, c1, c2, c3], _ =>
    obtain rfl : c0 = .int .u8 n0 := by simpa [Value.cells] using e0
    obtain rfl : c1 = .int .i64 n1 := by simpa [Value.cells] using e1
    obtain rfl : c2 = .int .i64 n2 := by simpa [Value.cells] using e2
    obtain rfl : c3 = .int .i64 n3 := by simpa [Value.cells] using e3
    exact ⟨⟨n0, n1, n2, n3⟩, rfl⟩
end

theorem wf64 {a : Int} (h : (Lit.int .i64 a).wf = true) : -9223372036854775808 ≤ a ∧ a ≤ 9223372036854775807 := by
  simp [Lit.wf, IntKind.min, IntKind.max, IntKind.signed, IntKind.bits] at h
  constructor <;> omega

theorem walk8 (c : Go.M.Cf) (th : Int) (op : Go.M.Opn) (x : Int) (w : World) (hx : Go.M.i64 x) :
    Calls Tryz.prog 8 #[.agg c.cells, .int .i64 th, op.v, .int .i64 x] w fun e w' => e = .returned (.bool true) ∧ Below w.heap.size w w' :=
  Calls.mono (Go.M.frontNil_ok (c := c) (op := op) (th := th) (K := fun v w' => v = .bool true ∧ Below w.heap.size w w') hx fun w' ho => ⟨rfl, ho.below⟩) fun e w' ⟨v, he, hv, hb⟩ => ⟨by rw [he, hv], hb⟩

end Go.Proofs.YtdodcfbmpmapmaaGreat

/- FrontNil: the row's step. -/
set_option linter.all false
namespace Go.Proofs.YtdodcfbmpmapmaaGreat
open Go.ChangeShapes Go.WideShapes Go.ChangeAt Go.RowKit Go.Joins Go.Deep

set_option maxRecDepth 100000 in
theorem lifted8 (os : Os) (started : os.Started) (H : Type) (enc : TypeId × Value → H) :
    ReturnsInHanded {} Tryz.checked os 8 .any (Rows.frontNilSpec.pre6 enc Tryz.prog Tryz.f8 Rows.frontNilRow.domain false) (Rows.frontNilSpec.post enc Tryz.prog Tryz.f8 false true false false) := by
  refine returnsInHanded_of_change (C := Tryz.checked) own started (by kernel_rfl) Tryz.func8
    (ChangeSpec.witness6 (enc := enc) (C := Tryz.checked) false ⟨#[], #[.agg #[.int .i64 0, .int .i64 0, .int .i64 0, .int .i64 0, .int .i64 0, .int .i64 0, .int .i64 0, .int .i64 0, .int .i64 0, .int .i64 0, .int .i64 0, .int .i64 0, .int .i64 0, .int .i64 0, .int .i64 0, .int .i64 0], .int .i64 0, .agg #[.int .u8 0, .int .i64 0, .int .i64 0, .int .i64 0], .int .i64 0], []⟩ 8 (by kernel_rfl) (by kernel_rfl) (by kernel_rfl) (by kernel_rfl)) ?_
  intro W base args ds gs before hval0 hW hcnd _
  have hval : ∀ (j : Nat) t v, Tryz.f8.params[j]? = some t → args[j]? = some v → Value.okWide Tryz.prog W .any base t v := hval0
  have hW' := hW
  obtain ⟨p, q, hA0, hV, rfl, hfz, hnd⟩ := hW
  have hA : DataW.TrodAll enc Tryz.prog W 0 (fun _ => true) true Tryz.f8.params.toList args.toList ds p := hA0
  rw [Tryz.params8] at hA hval
  obtain ⟨v0, vs0, d0, ds0, p0, q0, hargs, rfl, rfl, h0, r0⟩ := trodAll_cons hA
  obtain ⟨v1, vs1, d1, ds1, p1, q1, rfl, rfl, rfl, h1, r1⟩ := trodAll_cons r0
  obtain ⟨v2, vs2, d2, ds2, p2, q2, rfl, rfl, rfl, h2, r2⟩ := trodAll_cons r1
  obtain ⟨v3, vs3, d3, ds3, p3, q3, rfl, rfl, rfl, h3, r3⟩ := trodAll_cons r2
  obtain ⟨rfl, rfl, rfl⟩ := trodAll_nil r3
  obtain rfl : args = #[v0, v1, v2, v3] := by cases args; simp_all
  obtain ⟨rfl, rfl⟩ := trodVars_none hV
  have k0 := h0
  have lt0 : ∀ x ∈ p0, x.block < W.heap.size := by obtain ⟨m, hm⟩ := k0; exact DataW.trod_lt m _ _ _ hm
  have k2 := h2
  have lt2 : ∀ x ∈ p2, x.block < W.heap.size := by obtain ⟨m, hm⟩ := k2; exact DataW.trod_lt m _ _ _ hm
  obtain ⟨c, rfl⟩ := open_cfg (hval 0 24 v0 rfl rfl) h0
  obtain ⟨a1, rfl, rfl, rfl, w1⟩ := open_int Tryz.underlying3 (hval 1 3 v1 rfl rfl) h1
  obtain ⟨o, rfl⟩ := open_op (hval 2 32 v2 rfl rfl) h2
  obtain ⟨a3, rfl, rfl, rfl, w3⟩ := open_int Tryz.underlying2 (hval 3 2 v3 rfl rfl) h3
  clear hA0 hval0
  have hx : Go.M.i64 a3 := by
    unfold Go.M.i64
    exact wf64 w3
  refine (walk8 c a1 o a3 W hx).mono fun e W' ⟨he, bel⟩ => ?_
  subst he
  exact ⟨_, rfl, _, _, _, [], _, [], hW', trodAll_mk1 (shut_bool Tryz.underlying4 _), (trodAll_cons_mk (Below.trod laidOut (by kernel_rfl) (of_decide_eq_true (by kernel_rfl)) k0 bel lt0) (trodAll_cons_mk (shut_int Tryz.underlying3 w1) (trodAll_cons_mk (Below.trod laidOut (by kernel_rfl) (of_decide_eq_true (by kernel_rfl)) k2 bel lt2) (trodAll_cons_mk (shut_int Tryz.underlying2 w3) trodAll_mk0)))), rfl, bel.frame _, fun h => by cases h⟩

end Go.Proofs.YtdodcfbmpmapmaaGreat
