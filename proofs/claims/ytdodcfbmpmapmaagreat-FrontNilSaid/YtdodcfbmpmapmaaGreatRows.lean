/-
  No cell of these rows narrows 'for every input' (looked for: loops, veiled, ifaces, maps, wideKeys, modest, calm, conditions, laid).
  DERIVED. THE GIVEN ROWS OF THIS SEAT. 12 by the template 'for every input the law returns true; each argument reads behind the call as it read before'; 0 by the template 'total and deterministic' (their statements: YtdodcfbmpmapmaaGreatTotals.lean).
  GIVEN WITH THE SEED: the statements are not yours to turn. If you find one false, say at which input.
  Laid BY PROGRAM, IN A SANDBOX (cutbox-rows.mjs): the forced cells as the released guide's own fill.sh prints them over the translation ec3410326e2b0769… (all of the seat's roots in one cut). By AI agents, Wed Nov 11 2026. No macro, syntax, notation, axiom, sorry.
-/
import Derived.Test.YtdodcfbmpmapmaaGreatChecked
import GoSem.Claim
import GoSem.ClaimJoined
import GoSem.ClaimMapViews
import Derived.JoinedTies
import Derived.KernelRfl
namespace Go.Proofs.YtdodcfbmpmapmaaGreat
/- THE CELL 'sum', in the pinned program and in every row, IS THE sha256 OF THE DUMP (.gsa) THAT YtdodcfbmpmapmaaGreatProg.lean LOADS. Nothing in Lean hashes anything: it is a label: what it is worth is what the hold of that sum in a sandbox is worth. -/
noncomputable def Tryz.pinned : Pinned := { name := "ytdodcfbmpmapmaagreat", sum := "ec3410326e2b07698fff33afc68b7165205e4de7ac2bce998d7232cada8bb970", checked := Tryz.checked }
namespace Rows
def none {H : Type} : Left H := { results := [], args := [] }

/-- 'overfalllaw20.FrontBusy': WHATEVER THE INPUT: true; the input reads as it did. -/
def frontBusySpec : ChangeSpec := { name := "frontBusy", fn := fun _ => fun
  | [d1, d2] => { results := [.lit (.bool true)], args := [d1, d2] }
  | _ => none }
def frontBusyRow : OpenClaim := { program := "ytdodcfbmpmapmaagreat", sum := "ec3410326e2b07698fff33afc68b7165205e4de7ac2bce998d7232cada8bb970", func := "overfall/overfalllaw20.FrontBusy", spec := "frontBusy", inPlace := ["sync/atomic.StoreUint64", "sync/atomic.LoadInt32", "sync/atomic.StoreInt32", "sync/atomic.LoadUint64", "sync/atomic.CompareAndSwapUint64", "sync/atomic.AddUint64", "sync/atomic.CompareAndSwapInt64", "sync/atomic.LoadInt64", "math/bits.Add64"], unfollowed := true, recurses := true, named := ["math/bits.divideError", "math/bits.overflowError"], apart := false }
def FrontBusySaid : Prop := frontBusyRow.holds Tryz.pinned (OpenSpec.ofChange frontBusySpec)

/-- ITS FALSE NEIGHBOUR: 'it returns false'. Refute it at one input. -/
def frontBusyWrong : ChangeSpec := { name := "frontBusy", fn := fun _ => fun
  | [d1, d2] => { results := [.lit (.bool false)], args := [d1, d2] }
  | _ => none }
def FrontBusyWrongFalsely : Prop := frontBusyRow.holds Tryz.pinned (OpenSpec.ofChange frontBusyWrong)

/-- 'overfalllaw20.FrontLock': WHATEVER THE INPUT: true; the input reads as it did. -/
def frontLockSpec : ChangeSpec := { name := "frontLock", fn := fun _ => fun
  | [d1, d2] => { results := [.lit (.bool true)], args := [d1, d2] }
  | _ => none }
def frontLockRow : OpenClaim := { program := "ytdodcfbmpmapmaagreat", sum := "ec3410326e2b07698fff33afc68b7165205e4de7ac2bce998d7232cada8bb970", func := "overfall/overfalllaw20.FrontLock", spec := "frontLock", inPlace := ["sync/atomic.StoreUint64", "sync/atomic.LoadInt32", "sync/atomic.StoreInt32", "sync/atomic.LoadUint64", "sync/atomic.CompareAndSwapUint64", "sync/atomic.AddUint64", "sync/atomic.CompareAndSwapInt64", "sync/atomic.LoadInt64", "math/bits.Add64"], unfollowed := true, recurses := true, named := ["math/bits.divideError", "math/bits.overflowError"], apart := false }
def FrontLockSaid : Prop := frontLockRow.holds Tryz.pinned (OpenSpec.ofChange frontLockSpec)

/-- ITS FALSE NEIGHBOUR: 'it returns false'. Refute it at one input. -/
def frontLockWrong : ChangeSpec := { name := "frontLock", fn := fun _ => fun
  | [d1, d2] => { results := [.lit (.bool false)], args := [d1, d2] }
  | _ => none }
def FrontLockWrongFalsely : Prop := frontLockRow.holds Tryz.pinned (OpenSpec.ofChange frontLockWrong)

/-- 'overfalllaw20.FrontTwins': WHATEVER THE INPUT: true; the input reads as it did. -/
def frontTwinsSpec : ChangeSpec := { name := "frontTwins", fn := fun _ => fun
  | [d1, d2, d3] => { results := [.lit (.bool true)], args := [d1, d2, d3] }
  | _ => none }
def frontTwinsRow : OpenClaim := { program := "ytdodcfbmpmapmaagreat", sum := "ec3410326e2b07698fff33afc68b7165205e4de7ac2bce998d7232cada8bb970", func := "overfall/overfalllaw20.FrontTwins", spec := "frontTwins", inPlace := ["sync/atomic.StoreUint64", "sync/atomic.LoadInt32", "sync/atomic.StoreInt32", "sync/atomic.LoadUint64", "sync/atomic.CompareAndSwapUint64", "sync/atomic.AddUint64", "sync/atomic.CompareAndSwapInt64", "sync/atomic.LoadInt64", "math/bits.Add64"], unfollowed := true, recurses := true, named := ["math/bits.divideError", "math/bits.overflowError"], apart := false }
def FrontTwinsSaid : Prop := frontTwinsRow.holds Tryz.pinned (OpenSpec.ofChange frontTwinsSpec)

/-- ITS FALSE NEIGHBOUR: 'it returns false'. Refute it at one input. -/
def frontTwinsWrong : ChangeSpec := { name := "frontTwins", fn := fun _ => fun
  | [d1, d2, d3] => { results := [.lit (.bool false)], args := [d1, d2, d3] }
  | _ => none }
def FrontTwinsWrongFalsely : Prop := frontTwinsRow.holds Tryz.pinned (OpenSpec.ofChange frontTwinsWrong)

/-- 'overfalllaw20.FrontAlone': WHATEVER THE INPUT: true; the input reads as it did. -/
def frontAloneSpec : ChangeSpec := { name := "frontAlone", fn := fun _ => fun
  | [d1, d2, d3, d4] => { results := [.lit (.bool true)], args := [d1, d2, d3, d4] }
  | _ => none }
def frontAloneRow : OpenClaim := { program := "ytdodcfbmpmapmaagreat", sum := "ec3410326e2b07698fff33afc68b7165205e4de7ac2bce998d7232cada8bb970", func := "overfall/overfalllaw20.FrontAlone", spec := "frontAlone", inPlace := ["sync/atomic.StoreUint64", "sync/atomic.LoadInt32", "sync/atomic.StoreInt32", "sync/atomic.LoadUint64", "sync/atomic.CompareAndSwapUint64", "sync/atomic.AddUint64", "sync/atomic.CompareAndSwapInt64", "sync/atomic.LoadInt64", "math/bits.Add64"], unfollowed := true, recurses := true, named := ["math/bits.divideError", "math/bits.overflowError"], apart := false }
def FrontAloneSaid : Prop := frontAloneRow.holds Tryz.pinned (OpenSpec.ofChange frontAloneSpec)

/-- ITS FALSE NEIGHBOUR: 'it returns false'. Refute it at one input. -/
def frontAloneWrong : ChangeSpec := { name := "frontAlone", fn := fun _ => fun
  | [d1, d2, d3, d4] => { results := [.lit (.bool false)], args := [d1, d2, d3, d4] }
  | _ => none }
def FrontAloneWrongFalsely : Prop := frontAloneRow.holds Tryz.pinned (OpenSpec.ofChange frontAloneWrong)

/-- 'overfalllaw20.FrontOrders': WHATEVER THE INPUT: true; the input reads as it did. -/
def frontOrdersSpec : ChangeSpec := { name := "frontOrders", fn := fun _ => fun
  | [d1, d2] => { results := [.lit (.bool true)], args := [d1, d2] }
  | _ => none }
def frontOrdersRow : OpenClaim := { program := "ytdodcfbmpmapmaagreat", sum := "ec3410326e2b07698fff33afc68b7165205e4de7ac2bce998d7232cada8bb970", func := "overfall/overfalllaw20.FrontOrders", spec := "frontOrders", inPlace := ["sync/atomic.StoreUint64", "sync/atomic.LoadInt32", "sync/atomic.StoreInt32", "sync/atomic.LoadUint64", "sync/atomic.CompareAndSwapUint64", "sync/atomic.AddUint64", "sync/atomic.CompareAndSwapInt64", "sync/atomic.LoadInt64", "math/bits.Add64"], unfollowed := true, recurses := true, named := ["math/bits.divideError", "math/bits.overflowError"], apart := false }
def FrontOrdersSaid : Prop := frontOrdersRow.holds Tryz.pinned (OpenSpec.ofChange frontOrdersSpec)

/-- ITS FALSE NEIGHBOUR: 'it returns false'. Refute it at one input. -/
def frontOrdersWrong : ChangeSpec := { name := "frontOrders", fn := fun _ => fun
  | [d1, d2] => { results := [.lit (.bool false)], args := [d1, d2] }
  | _ => none }
def FrontOrdersWrongFalsely : Prop := frontOrdersRow.holds Tryz.pinned (OpenSpec.ofChange frontOrdersWrong)

/-- 'overfalllaw20.FrontNil': WHATEVER THE INPUT: true; the input reads as it did. -/
def frontNilSpec : ChangeSpec := { name := "frontNil", fn := fun _ => fun
  | [d1, d2, d3, d4] => { results := [.lit (.bool true)], args := [d1, d2, d3, d4] }
  | _ => none }
def frontNilRow : OpenClaim := { program := "ytdodcfbmpmapmaagreat", sum := "ec3410326e2b07698fff33afc68b7165205e4de7ac2bce998d7232cada8bb970", func := "overfall/overfalllaw20.FrontNil", spec := "frontNil", inPlace := ["sync/atomic.StoreUint64", "sync/atomic.LoadInt32", "sync/atomic.StoreInt32", "sync/atomic.LoadUint64", "sync/atomic.CompareAndSwapUint64", "sync/atomic.AddUint64", "sync/atomic.CompareAndSwapInt64", "sync/atomic.LoadInt64", "math/bits.Add64"], unfollowed := true, recurses := true, named := ["math/bits.divideError", "math/bits.overflowError"], apart := false }
def FrontNilSaid : Prop := frontNilRow.holds Tryz.pinned (OpenSpec.ofChange frontNilSpec)

/-- ITS FALSE NEIGHBOUR: 'it returns false'. Refute it at one input. -/
def frontNilWrong : ChangeSpec := { name := "frontNil", fn := fun _ => fun
  | [d1, d2, d3, d4] => { results := [.lit (.bool false)], args := [d1, d2, d3, d4] }
  | _ => none }
def FrontNilWrongFalsely : Prop := frontNilRow.holds Tryz.pinned (OpenSpec.ofChange frontNilWrong)

/-- 'overfalllaw21.PlayRuns': WHATEVER THE INPUT: true; the input reads as it did. -/
def playRunsSpec : ChangeSpec := { name := "playRuns", fn := fun _ => fun
  | [d1, d2] => { results := [.lit (.bool true)], args := [d1, d2] }
  | _ => none }
def playRunsRow : OpenClaim := { program := "ytdodcfbmpmapmaagreat", sum := "ec3410326e2b07698fff33afc68b7165205e4de7ac2bce998d7232cada8bb970", func := "overfall/overfalllaw21.PlayRuns", spec := "playRuns", inPlace := ["sync/atomic.StoreUint64", "sync/atomic.LoadInt64", "sync/atomic.LoadInt32", "sync/atomic.StoreInt32", "sync/atomic.LoadUint64", "sync/atomic.CompareAndSwapUint64", "sync/atomic.AddUint64", "sync/atomic.CompareAndSwapInt64", "math/bits.Add64"], unfollowed := true, recurses := true, named := ["math/bits.divideError", "math/bits.overflowError"], apart := false }
def PlayRunsSaid : Prop := playRunsRow.holds Tryz.pinned (OpenSpec.ofChange playRunsSpec)

/-- ITS FALSE NEIGHBOUR: 'it returns false'. Refute it at one input. -/
def playRunsWrong : ChangeSpec := { name := "playRuns", fn := fun _ => fun
  | [d1, d2] => { results := [.lit (.bool false)], args := [d1, d2] }
  | _ => none }
def PlayRunsWrongFalsely : Prop := playRunsRow.holds Tryz.pinned (OpenSpec.ofChange playRunsWrong)

/-- 'overfalllaw21.PlayParts': WHATEVER THE INPUT: true; the input reads as it did. -/
def playPartsSpec : ChangeSpec := { name := "playParts", fn := fun _ => fun
  | [d1, d2, d3] => { results := [.lit (.bool true)], args := [d1, d2, d3] }
  | _ => none }
def playPartsRow : OpenClaim := { program := "ytdodcfbmpmapmaagreat", sum := "ec3410326e2b07698fff33afc68b7165205e4de7ac2bce998d7232cada8bb970", func := "overfall/overfalllaw21.PlayParts", spec := "playParts", inPlace := ["sync/atomic.StoreUint64", "sync/atomic.LoadInt64", "sync/atomic.LoadInt32", "sync/atomic.StoreInt32", "sync/atomic.LoadUint64", "sync/atomic.CompareAndSwapUint64", "sync/atomic.AddUint64", "sync/atomic.CompareAndSwapInt64", "math/bits.Add64"], unfollowed := true, recurses := true, named := ["math/bits.divideError", "math/bits.overflowError"], apart := false }
def PlayPartsSaid : Prop := playPartsRow.holds Tryz.pinned (OpenSpec.ofChange playPartsSpec)

/-- ITS FALSE NEIGHBOUR: 'it returns false'. Refute it at one input. -/
def playPartsWrong : ChangeSpec := { name := "playParts", fn := fun _ => fun
  | [d1, d2, d3] => { results := [.lit (.bool false)], args := [d1, d2, d3] }
  | _ => none }
def PlayPartsWrongFalsely : Prop := playPartsRow.holds Tryz.pinned (OpenSpec.ofChange playPartsWrong)

/-- 'overfalllaw20.FrontPlays': WHATEVER THE INPUT: true; the input reads as it did. -/
def frontPlaysSpec : ChangeSpec := { name := "frontPlays", fn := fun _ => fun
  | [d1, d2] => { results := [.lit (.bool true)], args := [d1, d2] }
  | _ => none }
def frontPlaysRow : OpenClaim := { program := "ytdodcfbmpmapmaagreat", sum := "ec3410326e2b07698fff33afc68b7165205e4de7ac2bce998d7232cada8bb970", func := "overfall/overfalllaw20.FrontPlays", spec := "frontPlays", inPlace := ["sync/atomic.StoreUint64", "sync/atomic.LoadInt32", "sync/atomic.StoreInt32", "sync/atomic.LoadUint64", "sync/atomic.CompareAndSwapUint64", "sync/atomic.AddUint64", "sync/atomic.CompareAndSwapInt64", "sync/atomic.LoadInt64", "math/bits.Add64"], unfollowed := true, recurses := true, named := ["math/bits.divideError", "math/bits.overflowError"], apart := false }
def FrontPlaysSaid : Prop := frontPlaysRow.holds Tryz.pinned (OpenSpec.ofChange frontPlaysSpec)

/-- ITS FALSE NEIGHBOUR: 'it returns false'. Refute it at one input. -/
def frontPlaysWrong : ChangeSpec := { name := "frontPlays", fn := fun _ => fun
  | [d1, d2] => { results := [.lit (.bool false)], args := [d1, d2] }
  | _ => none }
def FrontPlaysWrongFalsely : Prop := frontPlaysRow.holds Tryz.pinned (OpenSpec.ofChange frontPlaysWrong)

/-- 'overfalllaw21.PlayFronts': WHATEVER THE INPUT: true; the input reads as it did. -/
def playFrontsSpec : ChangeSpec := { name := "playFronts", fn := fun _ => fun
  | [d1, d2] => { results := [.lit (.bool true)], args := [d1, d2] }
  | _ => none }
def playFrontsRow : OpenClaim := { program := "ytdodcfbmpmapmaagreat", sum := "ec3410326e2b07698fff33afc68b7165205e4de7ac2bce998d7232cada8bb970", func := "overfall/overfalllaw21.PlayFronts", spec := "playFronts", inPlace := ["sync/atomic.StoreUint64", "sync/atomic.LoadInt64", "sync/atomic.LoadInt32", "sync/atomic.StoreInt32", "sync/atomic.LoadUint64", "sync/atomic.CompareAndSwapUint64", "sync/atomic.AddUint64", "sync/atomic.CompareAndSwapInt64", "math/bits.Add64"], unfollowed := true, recurses := true, named := ["math/bits.divideError", "math/bits.overflowError"], apart := false }
def PlayFrontsSaid : Prop := playFrontsRow.holds Tryz.pinned (OpenSpec.ofChange playFrontsSpec)

/-- ITS FALSE NEIGHBOUR: 'it returns false'. Refute it at one input. -/
def playFrontsWrong : ChangeSpec := { name := "playFronts", fn := fun _ => fun
  | [d1, d2] => { results := [.lit (.bool false)], args := [d1, d2] }
  | _ => none }
def PlayFrontsWrongFalsely : Prop := playFrontsRow.holds Tryz.pinned (OpenSpec.ofChange playFrontsWrong)

/-- 'overfalllaw21.PlayTells': WHATEVER THE INPUT: true; the input reads as it did. -/
def playTellsSpec : ChangeSpec := { name := "playTells", fn := fun _ => fun
  | [d1, d2] => { results := [.lit (.bool true)], args := [d1, d2] }
  | _ => none }
def playTellsRow : OpenClaim := { program := "ytdodcfbmpmapmaagreat", sum := "ec3410326e2b07698fff33afc68b7165205e4de7ac2bce998d7232cada8bb970", func := "overfall/overfalllaw21.PlayTells", spec := "playTells", inPlace := ["sync/atomic.StoreUint64", "sync/atomic.LoadInt64", "sync/atomic.LoadInt32", "sync/atomic.StoreInt32", "sync/atomic.LoadUint64", "sync/atomic.CompareAndSwapUint64", "sync/atomic.AddUint64", "sync/atomic.CompareAndSwapInt64", "math/bits.Add64"], unfollowed := true, recurses := true, named := ["math/bits.divideError", "math/bits.overflowError"], apart := false }
def PlayTellsSaid : Prop := playTellsRow.holds Tryz.pinned (OpenSpec.ofChange playTellsSpec)

/-- ITS FALSE NEIGHBOUR: 'it returns false'. Refute it at one input. -/
def playTellsWrong : ChangeSpec := { name := "playTells", fn := fun _ => fun
  | [d1, d2] => { results := [.lit (.bool false)], args := [d1, d2] }
  | _ => none }
def PlayTellsWrongFalsely : Prop := playTellsRow.holds Tryz.pinned (OpenSpec.ofChange playTellsWrong)

/-- 'overfalllaw21.PlayFinishes': WHATEVER THE INPUT: true; the input reads as it did. -/
def playFinishesSpec : ChangeSpec := { name := "playFinishes", fn := fun _ => fun
  | [d1, d2, d3] => { results := [.lit (.bool true)], args := [d1, d2, d3] }
  | _ => none }
def playFinishesRow : OpenClaim := { program := "ytdodcfbmpmapmaagreat", sum := "ec3410326e2b07698fff33afc68b7165205e4de7ac2bce998d7232cada8bb970", func := "overfall/overfalllaw21.PlayFinishes", spec := "playFinishes", inPlace := ["sync/atomic.StoreUint64", "sync/atomic.LoadInt64", "sync/atomic.LoadInt32", "sync/atomic.StoreInt32", "sync/atomic.LoadUint64", "sync/atomic.CompareAndSwapUint64", "sync/atomic.AddUint64", "sync/atomic.CompareAndSwapInt64", "math/bits.Add64"], unfollowed := true, recurses := true, named := ["math/bits.divideError", "math/bits.overflowError"], apart := false }
def PlayFinishesSaid : Prop := playFinishesRow.holds Tryz.pinned (OpenSpec.ofChange playFinishesSpec)

/-- ITS FALSE NEIGHBOUR: 'it returns false'. Refute it at one input. -/
def playFinishesWrong : ChangeSpec := { name := "playFinishes", fn := fun _ => fun
  | [d1, d2, d3] => { results := [.lit (.bool false)], args := [d1, d2, d3] }
  | _ => none }
def PlayFinishesWrongFalsely : Prop := playFinishesRow.holds Tryz.pinned (OpenSpec.ofChange playFinishesWrong)

/- THE SECOND FORM. 'bulk': how many values and letters a reading holds, each counted each time it is reached (what is shared counts as often as it is met; a slice's spare places count too). A statement '..UptoSaid' is the law's where the arguments, and the package variables that the reading takes, are together of bulk at most 1048576: NARROWER than '..Said'. Prove '..Said' where nothing that the law and all that it calls make is longer than what came in: it says more and counts as full. Else prove '..UptoSaid'. A law counts once. -/
mutual
def uptoBulk {H : Type} : DataW H → Nat
  | .lit (.string bytes) => bytes.length + 1
  | .lit _ => 1
  | .nil => 1
  | .ptr d => uptoBulk d + 1
  | .slice elems spare => uptoBulkAll elems + uptoBulkAll spare + 1
  | .agg parts => uptoBulkAll parts + 1
  | .iface _ d => uptoBulk d + 1
  | .map entries => uptoBulkEntries entries + 1
  | .held _ => 1
def uptoBulkAll {H : Type} : List (DataW H) → Nat
  | [] => 0
  | d :: r => uptoBulk d + uptoBulkAll r
def uptoBulkEntries {H : Type} : List (Lit × DataW H) → Nat
  | [] => 0
  | x :: r => uptoBulkEntry x + uptoBulkEntries r
def uptoBulkEntry {H : Type} : Lit × DataW H → Nat
  | (.string bytes, d) => bytes.length + uptoBulk d + 1
  | (_, d) => uptoBulk d + 1
 end
def uptoSmall : (H : Type) → List (DataW H) → Bool := fun _ ds => decide (uptoBulkAll ds ≤ 1048576)
def OpenSpec.upto (s : _root_.Go.ChangeSpec) : _root_.Go.OpenSpec := { _root_.Go.OpenSpec.ofChange s with cond := some uptoSmall }

/-- 'overfalllaw20.FrontBusy', WHERE WHAT IT READS IS OF BULK AT MOST 1048576: true; the input reads as it did. -/
def frontBusyUptoRow : OpenClaim := { program := "ytdodcfbmpmapmaagreat", sum := "ec3410326e2b07698fff33afc68b7165205e4de7ac2bce998d7232cada8bb970", func := "overfall/overfalllaw20.FrontBusy", spec := "frontBusy", inPlace := ["sync/atomic.StoreUint64", "sync/atomic.LoadInt32", "sync/atomic.StoreInt32", "sync/atomic.LoadUint64", "sync/atomic.CompareAndSwapUint64", "sync/atomic.AddUint64", "sync/atomic.CompareAndSwapInt64", "sync/atomic.LoadInt64", "math/bits.Add64"], unfollowed := true, recurses := true, named := ["math/bits.divideError", "math/bits.overflowError"], apart := false, narrowed := true }
def FrontBusyUptoSaid : Prop := frontBusyUptoRow.holds Tryz.pinned (OpenSpec.upto frontBusySpec)

/-- 'overfalllaw20.FrontLock', WHERE WHAT IT READS IS OF BULK AT MOST 1048576: true; the input reads as it did. -/
def frontLockUptoRow : OpenClaim := { program := "ytdodcfbmpmapmaagreat", sum := "ec3410326e2b07698fff33afc68b7165205e4de7ac2bce998d7232cada8bb970", func := "overfall/overfalllaw20.FrontLock", spec := "frontLock", inPlace := ["sync/atomic.StoreUint64", "sync/atomic.LoadInt32", "sync/atomic.StoreInt32", "sync/atomic.LoadUint64", "sync/atomic.CompareAndSwapUint64", "sync/atomic.AddUint64", "sync/atomic.CompareAndSwapInt64", "sync/atomic.LoadInt64", "math/bits.Add64"], unfollowed := true, recurses := true, named := ["math/bits.divideError", "math/bits.overflowError"], apart := false, narrowed := true }
def FrontLockUptoSaid : Prop := frontLockUptoRow.holds Tryz.pinned (OpenSpec.upto frontLockSpec)

/-- 'overfalllaw20.FrontTwins', WHERE WHAT IT READS IS OF BULK AT MOST 1048576: true; the input reads as it did. -/
def frontTwinsUptoRow : OpenClaim := { program := "ytdodcfbmpmapmaagreat", sum := "ec3410326e2b07698fff33afc68b7165205e4de7ac2bce998d7232cada8bb970", func := "overfall/overfalllaw20.FrontTwins", spec := "frontTwins", inPlace := ["sync/atomic.StoreUint64", "sync/atomic.LoadInt32", "sync/atomic.StoreInt32", "sync/atomic.LoadUint64", "sync/atomic.CompareAndSwapUint64", "sync/atomic.AddUint64", "sync/atomic.CompareAndSwapInt64", "sync/atomic.LoadInt64", "math/bits.Add64"], unfollowed := true, recurses := true, named := ["math/bits.divideError", "math/bits.overflowError"], apart := false, narrowed := true }
def FrontTwinsUptoSaid : Prop := frontTwinsUptoRow.holds Tryz.pinned (OpenSpec.upto frontTwinsSpec)

/-- 'overfalllaw20.FrontAlone', WHERE WHAT IT READS IS OF BULK AT MOST 1048576: true; the input reads as it did. -/
def frontAloneUptoRow : OpenClaim := { program := "ytdodcfbmpmapmaagreat", sum := "ec3410326e2b07698fff33afc68b7165205e4de7ac2bce998d7232cada8bb970", func := "overfall/overfalllaw20.FrontAlone", spec := "frontAlone", inPlace := ["sync/atomic.StoreUint64", "sync/atomic.LoadInt32", "sync/atomic.StoreInt32", "sync/atomic.LoadUint64", "sync/atomic.CompareAndSwapUint64", "sync/atomic.AddUint64", "sync/atomic.CompareAndSwapInt64", "sync/atomic.LoadInt64", "math/bits.Add64"], unfollowed := true, recurses := true, named := ["math/bits.divideError", "math/bits.overflowError"], apart := false, narrowed := true }
def FrontAloneUptoSaid : Prop := frontAloneUptoRow.holds Tryz.pinned (OpenSpec.upto frontAloneSpec)

/-- 'overfalllaw20.FrontOrders', WHERE WHAT IT READS IS OF BULK AT MOST 1048576: true; the input reads as it did. -/
def frontOrdersUptoRow : OpenClaim := { program := "ytdodcfbmpmapmaagreat", sum := "ec3410326e2b07698fff33afc68b7165205e4de7ac2bce998d7232cada8bb970", func := "overfall/overfalllaw20.FrontOrders", spec := "frontOrders", inPlace := ["sync/atomic.StoreUint64", "sync/atomic.LoadInt32", "sync/atomic.StoreInt32", "sync/atomic.LoadUint64", "sync/atomic.CompareAndSwapUint64", "sync/atomic.AddUint64", "sync/atomic.CompareAndSwapInt64", "sync/atomic.LoadInt64", "math/bits.Add64"], unfollowed := true, recurses := true, named := ["math/bits.divideError", "math/bits.overflowError"], apart := false, narrowed := true }
def FrontOrdersUptoSaid : Prop := frontOrdersUptoRow.holds Tryz.pinned (OpenSpec.upto frontOrdersSpec)

/-- 'overfalllaw20.FrontNil', WHERE WHAT IT READS IS OF BULK AT MOST 1048576: true; the input reads as it did. -/
def frontNilUptoRow : OpenClaim := { program := "ytdodcfbmpmapmaagreat", sum := "ec3410326e2b07698fff33afc68b7165205e4de7ac2bce998d7232cada8bb970", func := "overfall/overfalllaw20.FrontNil", spec := "frontNil", inPlace := ["sync/atomic.StoreUint64", "sync/atomic.LoadInt32", "sync/atomic.StoreInt32", "sync/atomic.LoadUint64", "sync/atomic.CompareAndSwapUint64", "sync/atomic.AddUint64", "sync/atomic.CompareAndSwapInt64", "sync/atomic.LoadInt64", "math/bits.Add64"], unfollowed := true, recurses := true, named := ["math/bits.divideError", "math/bits.overflowError"], apart := false, narrowed := true }
def FrontNilUptoSaid : Prop := frontNilUptoRow.holds Tryz.pinned (OpenSpec.upto frontNilSpec)

/-- 'overfalllaw21.PlayRuns', WHERE WHAT IT READS IS OF BULK AT MOST 1048576: true; the input reads as it did. -/
def playRunsUptoRow : OpenClaim := { program := "ytdodcfbmpmapmaagreat", sum := "ec3410326e2b07698fff33afc68b7165205e4de7ac2bce998d7232cada8bb970", func := "overfall/overfalllaw21.PlayRuns", spec := "playRuns", inPlace := ["sync/atomic.StoreUint64", "sync/atomic.LoadInt64", "sync/atomic.LoadInt32", "sync/atomic.StoreInt32", "sync/atomic.LoadUint64", "sync/atomic.CompareAndSwapUint64", "sync/atomic.AddUint64", "sync/atomic.CompareAndSwapInt64", "math/bits.Add64"], unfollowed := true, recurses := true, named := ["math/bits.divideError", "math/bits.overflowError"], apart := false, narrowed := true }
def PlayRunsUptoSaid : Prop := playRunsUptoRow.holds Tryz.pinned (OpenSpec.upto playRunsSpec)

/-- 'overfalllaw21.PlayParts', WHERE WHAT IT READS IS OF BULK AT MOST 1048576: true; the input reads as it did. -/
def playPartsUptoRow : OpenClaim := { program := "ytdodcfbmpmapmaagreat", sum := "ec3410326e2b07698fff33afc68b7165205e4de7ac2bce998d7232cada8bb970", func := "overfall/overfalllaw21.PlayParts", spec := "playParts", inPlace := ["sync/atomic.StoreUint64", "sync/atomic.LoadInt64", "sync/atomic.LoadInt32", "sync/atomic.StoreInt32", "sync/atomic.LoadUint64", "sync/atomic.CompareAndSwapUint64", "sync/atomic.AddUint64", "sync/atomic.CompareAndSwapInt64", "math/bits.Add64"], unfollowed := true, recurses := true, named := ["math/bits.divideError", "math/bits.overflowError"], apart := false, narrowed := true }
def PlayPartsUptoSaid : Prop := playPartsUptoRow.holds Tryz.pinned (OpenSpec.upto playPartsSpec)

/-- 'overfalllaw20.FrontPlays', WHERE WHAT IT READS IS OF BULK AT MOST 1048576: true; the input reads as it did. -/
def frontPlaysUptoRow : OpenClaim := { program := "ytdodcfbmpmapmaagreat", sum := "ec3410326e2b07698fff33afc68b7165205e4de7ac2bce998d7232cada8bb970", func := "overfall/overfalllaw20.FrontPlays", spec := "frontPlays", inPlace := ["sync/atomic.StoreUint64", "sync/atomic.LoadInt32", "sync/atomic.StoreInt32", "sync/atomic.LoadUint64", "sync/atomic.CompareAndSwapUint64", "sync/atomic.AddUint64", "sync/atomic.CompareAndSwapInt64", "sync/atomic.LoadInt64", "math/bits.Add64"], unfollowed := true, recurses := true, named := ["math/bits.divideError", "math/bits.overflowError"], apart := false, narrowed := true }
def FrontPlaysUptoSaid : Prop := frontPlaysUptoRow.holds Tryz.pinned (OpenSpec.upto frontPlaysSpec)

/-- 'overfalllaw21.PlayFronts', WHERE WHAT IT READS IS OF BULK AT MOST 1048576: true; the input reads as it did. -/
def playFrontsUptoRow : OpenClaim := { program := "ytdodcfbmpmapmaagreat", sum := "ec3410326e2b07698fff33afc68b7165205e4de7ac2bce998d7232cada8bb970", func := "overfall/overfalllaw21.PlayFronts", spec := "playFronts", inPlace := ["sync/atomic.StoreUint64", "sync/atomic.LoadInt64", "sync/atomic.LoadInt32", "sync/atomic.StoreInt32", "sync/atomic.LoadUint64", "sync/atomic.CompareAndSwapUint64", "sync/atomic.AddUint64", "sync/atomic.CompareAndSwapInt64", "math/bits.Add64"], unfollowed := true, recurses := true, named := ["math/bits.divideError", "math/bits.overflowError"], apart := false, narrowed := true }
def PlayFrontsUptoSaid : Prop := playFrontsUptoRow.holds Tryz.pinned (OpenSpec.upto playFrontsSpec)

/-- 'overfalllaw21.PlayTells', WHERE WHAT IT READS IS OF BULK AT MOST 1048576: true; the input reads as it did. -/
def playTellsUptoRow : OpenClaim := { program := "ytdodcfbmpmapmaagreat", sum := "ec3410326e2b07698fff33afc68b7165205e4de7ac2bce998d7232cada8bb970", func := "overfall/overfalllaw21.PlayTells", spec := "playTells", inPlace := ["sync/atomic.StoreUint64", "sync/atomic.LoadInt64", "sync/atomic.LoadInt32", "sync/atomic.StoreInt32", "sync/atomic.LoadUint64", "sync/atomic.CompareAndSwapUint64", "sync/atomic.AddUint64", "sync/atomic.CompareAndSwapInt64", "math/bits.Add64"], unfollowed := true, recurses := true, named := ["math/bits.divideError", "math/bits.overflowError"], apart := false, narrowed := true }
def PlayTellsUptoSaid : Prop := playTellsUptoRow.holds Tryz.pinned (OpenSpec.upto playTellsSpec)

/-- 'overfalllaw21.PlayFinishes', WHERE WHAT IT READS IS OF BULK AT MOST 1048576: true; the input reads as it did. -/
def playFinishesUptoRow : OpenClaim := { program := "ytdodcfbmpmapmaagreat", sum := "ec3410326e2b07698fff33afc68b7165205e4de7ac2bce998d7232cada8bb970", func := "overfall/overfalllaw21.PlayFinishes", spec := "playFinishes", inPlace := ["sync/atomic.StoreUint64", "sync/atomic.LoadInt64", "sync/atomic.LoadInt32", "sync/atomic.StoreInt32", "sync/atomic.LoadUint64", "sync/atomic.CompareAndSwapUint64", "sync/atomic.AddUint64", "sync/atomic.CompareAndSwapInt64", "math/bits.Add64"], unfollowed := true, recurses := true, named := ["math/bits.divideError", "math/bits.overflowError"], apart := false, narrowed := true }
def PlayFinishesUptoSaid : Prop := playFinishesUptoRow.holds Tryz.pinned (OpenSpec.upto playFinishesSpec)

end Rows
end Go.Proofs.YtdodcfbmpmapmaaGreat
