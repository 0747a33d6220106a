/-
  No cell of these rows narrows 'for every input' (looked for: loops, veiled, ifaces, maps, wideKeys, modest, calm, conditions, laid).
  DERIVED. THE GIVEN ROWS OF THIS SEAT. 14 by the template 'for every input the law returns true; each argument reads behind the call as it read before'; 0 by the template 'total and deterministic' (their statements: YtnofenejoebkhaaGreatTotals.lean).
  GIVEN WITH THE SEED: the statements are not yours to turn. If you find one false, say at which input.
  Laid BY PROGRAM, IN A SANDBOX (cutbox-rows.mjs): the forced cells as the released guide's own fill.sh prints them over the translation 6c44252897491219… (all of the seat's roots in one cut). By AI agents, Wed Nov 11 2026. No macro, syntax, notation, axiom, sorry.
-/
import Derived.Test.YtnofenejoebkhaaGreatChecked
import GoSem.Claim
import GoSem.ClaimJoined
import GoSem.ClaimMapViews
import Derived.JoinedTies
import Derived.KernelRfl
namespace Go.Proofs.YtnofenejoebkhaaGreat
/- THE CELL 'sum', in the pinned program and in every row, IS THE sha256 OF THE DUMP (.gsa) THAT YtnofenejoebkhaaGreatProg.lean LOADS. Nothing in Lean hashes anything: it is a label: what it is worth is what the hold of that sum in a sandbox is worth. -/
noncomputable def Tryz.pinned : Pinned := { name := "ytnofenejoebkhaagreat", sum := "6c4425289749121962c60c9e7c8284aea5641785af14bef09082eca9670585c0", checked := Tryz.checked }
namespace Rows
def none {H : Type} : Left H := { results := [], args := [] }

/-- 'spinneytop.WholeAnswers': WHATEVER THE INPUT: true; the input reads as it did. -/
def wholeAnswersSpec : ChangeSpec := { name := "wholeAnswers", fn := fun _ => fun
  | [d1, d2] => { results := [.lit (.bool true)], args := [d1, d2] }
  | _ => none }
def wholeAnswersRow : OpenClaim := { program := "ytnofenejoebkhaagreat", sum := "6c4425289749121962c60c9e7c8284aea5641785af14bef09082eca9670585c0", func := "spinney/spinneytop.WholeAnswers", spec := "wholeAnswers", inPlace := ["sync/atomic.AddInt64", "sync/atomic.LoadUint64", "sync/atomic.CompareAndSwapUint64", "sync/atomic.StoreUint64"], unfollowed := true, recurses := true, apart := false }
def WholeAnswersSaid : Prop := wholeAnswersRow.holds Tryz.pinned (OpenSpec.ofChange wholeAnswersSpec)

/-- ITS FALSE NEIGHBOUR: 'it returns false'. Refute it at one input. -/
def wholeAnswersWrong : ChangeSpec := { name := "wholeAnswers", fn := fun _ => fun
  | [d1, d2] => { results := [.lit (.bool false)], args := [d1, d2] }
  | _ => none }
def WholeAnswersWrongFalsely : Prop := wholeAnswersRow.holds Tryz.pinned (OpenSpec.ofChange wholeAnswersWrong)

/-- 'spinneytop.WholeOnce': WHATEVER THE INPUT: true; the input reads as it did. -/
def wholeOnceSpec : ChangeSpec := { name := "wholeOnce", fn := fun _ => fun
  | [d1, d2] => { results := [.lit (.bool true)], args := [d1, d2] }
  | _ => none }
def wholeOnceRow : OpenClaim := { program := "ytnofenejoebkhaagreat", sum := "6c4425289749121962c60c9e7c8284aea5641785af14bef09082eca9670585c0", func := "spinney/spinneytop.WholeOnce", spec := "wholeOnce", inPlace := ["sync/atomic.AddInt64", "sync/atomic.LoadUint64", "sync/atomic.CompareAndSwapUint64", "sync/atomic.StoreUint64"], unfollowed := true, recurses := true, apart := false }
def WholeOnceSaid : Prop := wholeOnceRow.holds Tryz.pinned (OpenSpec.ofChange wholeOnceSpec)

/-- ITS FALSE NEIGHBOUR: 'it returns false'. Refute it at one input. -/
def wholeOnceWrong : ChangeSpec := { name := "wholeOnce", fn := fun _ => fun
  | [d1, d2] => { results := [.lit (.bool false)], args := [d1, d2] }
  | _ => none }
def WholeOnceWrongFalsely : Prop := wholeOnceRow.holds Tryz.pinned (OpenSpec.ofChange wholeOnceWrong)

/-- 'spinneytop.WholeFull': WHATEVER THE INPUT: true; the input reads as it did. -/
def wholeFullSpec : ChangeSpec := { name := "wholeFull", fn := fun _ => fun
  | [d1, d2, d3] => { results := [.lit (.bool true)], args := [d1, d2, d3] }
  | _ => none }
def wholeFullRow : OpenClaim := { program := "ytnofenejoebkhaagreat", sum := "6c4425289749121962c60c9e7c8284aea5641785af14bef09082eca9670585c0", func := "spinney/spinneytop.WholeFull", spec := "wholeFull", inPlace := ["sync/atomic.AddInt64", "sync/atomic.LoadUint64", "sync/atomic.CompareAndSwapUint64", "sync/atomic.StoreUint64"], unfollowed := true, recurses := true, apart := false }
def WholeFullSaid : Prop := wholeFullRow.holds Tryz.pinned (OpenSpec.ofChange wholeFullSpec)

/-- ITS FALSE NEIGHBOUR: 'it returns false'. Refute it at one input. -/
def wholeFullWrong : ChangeSpec := { name := "wholeFull", fn := fun _ => fun
  | [d1, d2, d3] => { results := [.lit (.bool false)], args := [d1, d2, d3] }
  | _ => none }
def WholeFullWrongFalsely : Prop := wholeFullRow.holds Tryz.pinned (OpenSpec.ofChange wholeFullWrong)

/-- 'spinneylaw21.PoolMany': WHATEVER THE INPUT: true; the input reads as it did. -/
def poolManySpec : ChangeSpec := { name := "poolMany", fn := fun _ => fun
  | [d1, d2] => { results := [.lit (.bool true)], args := [d1, d2] }
  | _ => none }
def poolManyRow : OpenClaim := { program := "ytnofenejoebkhaagreat", sum := "6c4425289749121962c60c9e7c8284aea5641785af14bef09082eca9670585c0", func := "spinney/spinneylaw21.PoolMany", spec := "poolMany", inPlace := ["sync/atomic.AddInt64", "sync/atomic.LoadUint64", "sync/atomic.CompareAndSwapUint64", "sync/atomic.StoreUint64"], unfollowed := true, recurses := true, apart := false }
def PoolManySaid : Prop := poolManyRow.holds Tryz.pinned (OpenSpec.ofChange poolManySpec)

/-- ITS FALSE NEIGHBOUR: 'it returns false'. Refute it at one input. -/
def poolManyWrong : ChangeSpec := { name := "poolMany", fn := fun _ => fun
  | [d1, d2] => { results := [.lit (.bool false)], args := [d1, d2] }
  | _ => none }
def PoolManyWrongFalsely : Prop := poolManyRow.holds Tryz.pinned (OpenSpec.ofChange poolManyWrong)

/-- 'spinneylaw22.EngineCollects': WHATEVER THE INPUT: true; the input reads as it did. -/
def engineCollectsSpec : ChangeSpec := { name := "engineCollects", fn := fun _ => fun
  | [d1, d2, d3] => { results := [.lit (.bool true)], args := [d1, d2, d3] }
  | _ => none }
def engineCollectsRow : OpenClaim := { program := "ytnofenejoebkhaagreat", sum := "6c4425289749121962c60c9e7c8284aea5641785af14bef09082eca9670585c0", func := "spinney/spinneylaw22.EngineCollects", spec := "engineCollects", inPlace := ["sync/atomic.AddInt64", "sync/atomic.LoadUint64", "sync/atomic.CompareAndSwapUint64", "sync/atomic.StoreUint64"], unfollowed := true, recurses := true, apart := false }
def EngineCollectsSaid : Prop := engineCollectsRow.holds Tryz.pinned (OpenSpec.ofChange engineCollectsSpec)

/-- ITS FALSE NEIGHBOUR: 'it returns false'. Refute it at one input. -/
def engineCollectsWrong : ChangeSpec := { name := "engineCollects", fn := fun _ => fun
  | [d1, d2, d3] => { results := [.lit (.bool false)], args := [d1, d2, d3] }
  | _ => none }
def EngineCollectsWrongFalsely : Prop := engineCollectsRow.holds Tryz.pinned (OpenSpec.ofChange engineCollectsWrong)

/-- 'spinneylaw22.EngineSame': WHATEVER THE INPUT: true; the input reads as it did. -/
def engineSameSpec : ChangeSpec := { name := "engineSame", fn := fun _ => fun
  | [d1, d2, d3] => { results := [.lit (.bool true)], args := [d1, d2, d3] }
  | _ => none }
def engineSameRow : OpenClaim := { program := "ytnofenejoebkhaagreat", sum := "6c4425289749121962c60c9e7c8284aea5641785af14bef09082eca9670585c0", func := "spinney/spinneylaw22.EngineSame", spec := "engineSame", inPlace := ["sync/atomic.AddInt64", "sync/atomic.LoadUint64", "sync/atomic.CompareAndSwapUint64", "sync/atomic.StoreUint64"], unfollowed := true, recurses := true, apart := false }
def EngineSameSaid : Prop := engineSameRow.holds Tryz.pinned (OpenSpec.ofChange engineSameSpec)

/-- ITS FALSE NEIGHBOUR: 'it returns false'. Refute it at one input. -/
def engineSameWrong : ChangeSpec := { name := "engineSame", fn := fun _ => fun
  | [d1, d2, d3] => { results := [.lit (.bool false)], args := [d1, d2, d3] }
  | _ => none }
def EngineSameWrongFalsely : Prop := engineSameRow.holds Tryz.pinned (OpenSpec.ofChange engineSameWrong)

/-- 'spinneylaw22.EngineBusy': WHATEVER THE INPUT: true; the input reads as it did. -/
def engineBusySpec : ChangeSpec := { name := "engineBusy", fn := fun _ => fun
  | [d1, d2] => { results := [.lit (.bool true)], args := [d1, d2] }
  | _ => none }
def engineBusyRow : OpenClaim := { program := "ytnofenejoebkhaagreat", sum := "6c4425289749121962c60c9e7c8284aea5641785af14bef09082eca9670585c0", func := "spinney/spinneylaw22.EngineBusy", spec := "engineBusy", inPlace := ["sync/atomic.AddInt64", "sync/atomic.LoadUint64", "sync/atomic.CompareAndSwapUint64", "sync/atomic.StoreUint64"], unfollowed := true, recurses := true, apart := false }
def EngineBusySaid : Prop := engineBusyRow.holds Tryz.pinned (OpenSpec.ofChange engineBusySpec)

/-- ITS FALSE NEIGHBOUR: 'it returns false'. Refute it at one input. -/
def engineBusyWrong : ChangeSpec := { name := "engineBusy", fn := fun _ => fun
  | [d1, d2] => { results := [.lit (.bool false)], args := [d1, d2] }
  | _ => none }
def EngineBusyWrongFalsely : Prop := engineBusyRow.holds Tryz.pinned (OpenSpec.ofChange engineBusyWrong)

/-- 'spinneylaw22.EngineCountsUp': WHATEVER THE INPUT: true; the input reads as it did. -/
def engineCountsUpSpec : ChangeSpec := { name := "engineCountsUp", fn := fun _ => fun
  | [d1, d2] => { results := [.lit (.bool true)], args := [d1, d2] }
  | _ => none }
def engineCountsUpRow : OpenClaim := { program := "ytnofenejoebkhaagreat", sum := "6c4425289749121962c60c9e7c8284aea5641785af14bef09082eca9670585c0", func := "spinney/spinneylaw22.EngineCountsUp", spec := "engineCountsUp", inPlace := ["sync/atomic.AddInt64", "sync/atomic.LoadUint64", "sync/atomic.CompareAndSwapUint64", "sync/atomic.StoreUint64"], unfollowed := true, recurses := true, apart := false }
def EngineCountsUpSaid : Prop := engineCountsUpRow.holds Tryz.pinned (OpenSpec.ofChange engineCountsUpSpec)

/-- ITS FALSE NEIGHBOUR: 'it returns false'. Refute it at one input. -/
def engineCountsUpWrong : ChangeSpec := { name := "engineCountsUp", fn := fun _ => fun
  | [d1, d2] => { results := [.lit (.bool false)], args := [d1, d2] }
  | _ => none }
def EngineCountsUpWrongFalsely : Prop := engineCountsUpRow.holds Tryz.pinned (OpenSpec.ofChange engineCountsUpWrong)

/-- 'spinneylaw22.EngineRegs': WHATEVER THE INPUT: true; the input reads as it did. -/
def engineRegsSpec : ChangeSpec := { name := "engineRegs", fn := fun _ => fun
  | [d1, d2, d3] => { results := [.lit (.bool true)], args := [d1, d2, d3] }
  | _ => none }
def engineRegsRow : OpenClaim := { program := "ytnofenejoebkhaagreat", sum := "6c4425289749121962c60c9e7c8284aea5641785af14bef09082eca9670585c0", func := "spinney/spinneylaw22.EngineRegs", spec := "engineRegs", inPlace := ["sync/atomic.AddInt64", "sync/atomic.LoadUint64", "sync/atomic.CompareAndSwapUint64", "sync/atomic.StoreUint64"], unfollowed := true, recurses := true, apart := false }
def EngineRegsSaid : Prop := engineRegsRow.holds Tryz.pinned (OpenSpec.ofChange engineRegsSpec)

/-- ITS FALSE NEIGHBOUR: 'it returns false'. Refute it at one input. -/
def engineRegsWrong : ChangeSpec := { name := "engineRegs", fn := fun _ => fun
  | [d1, d2, d3] => { results := [.lit (.bool false)], args := [d1, d2, d3] }
  | _ => none }
def EngineRegsWrongFalsely : Prop := engineRegsRow.holds Tryz.pinned (OpenSpec.ofChange engineRegsWrong)

/-- 'spinneylaw22.EngineStands': WHATEVER THE INPUT: true; the input reads as it did. -/
def engineStandsSpec : ChangeSpec := { name := "engineStands", fn := fun _ => fun
  | [d1, d2] => { results := [.lit (.bool true)], args := [d1, d2] }
  | _ => none }
def engineStandsRow : OpenClaim := { program := "ytnofenejoebkhaagreat", sum := "6c4425289749121962c60c9e7c8284aea5641785af14bef09082eca9670585c0", func := "spinney/spinneylaw22.EngineStands", spec := "engineStands", inPlace := ["sync/atomic.AddInt64", "sync/atomic.LoadUint64", "sync/atomic.CompareAndSwapUint64", "sync/atomic.StoreUint64"], unfollowed := true, recurses := true, apart := false }
def EngineStandsSaid : Prop := engineStandsRow.holds Tryz.pinned (OpenSpec.ofChange engineStandsSpec)

/-- ITS FALSE NEIGHBOUR: 'it returns false'. Refute it at one input. -/
def engineStandsWrong : ChangeSpec := { name := "engineStands", fn := fun _ => fun
  | [d1, d2] => { results := [.lit (.bool false)], args := [d1, d2] }
  | _ => none }
def EngineStandsWrongFalsely : Prop := engineStandsRow.holds Tryz.pinned (OpenSpec.ofChange engineStandsWrong)

/-- 'spinneylaw22.EngineClears': WHATEVER THE INPUT: true; the input reads as it did. -/
def engineClearsSpec : ChangeSpec := { name := "engineClears", fn := fun _ => fun
  | [d1, d2] => { results := [.lit (.bool true)], args := [d1, d2] }
  | _ => none }
def engineClearsRow : OpenClaim := { program := "ytnofenejoebkhaagreat", sum := "6c4425289749121962c60c9e7c8284aea5641785af14bef09082eca9670585c0", func := "spinney/spinneylaw22.EngineClears", spec := "engineClears", inPlace := ["sync/atomic.AddInt64", "sync/atomic.LoadUint64", "sync/atomic.CompareAndSwapUint64", "sync/atomic.StoreUint64"], unfollowed := true, recurses := true, apart := false }
def EngineClearsSaid : Prop := engineClearsRow.holds Tryz.pinned (OpenSpec.ofChange engineClearsSpec)

/-- ITS FALSE NEIGHBOUR: 'it returns false'. Refute it at one input. -/
def engineClearsWrong : ChangeSpec := { name := "engineClears", fn := fun _ => fun
  | [d1, d2] => { results := [.lit (.bool false)], args := [d1, d2] }
  | _ => none }
def EngineClearsWrongFalsely : Prop := engineClearsRow.holds Tryz.pinned (OpenSpec.ofChange engineClearsWrong)

/-- 'spinneylaw22.EngineFull': WHATEVER THE INPUT: true; the input reads as it did. -/
def engineFullSpec : ChangeSpec := { name := "engineFull", fn := fun _ => fun
  | [d1, d2] => { results := [.lit (.bool true)], args := [d1, d2] }
  | _ => none }
def engineFullRow : OpenClaim := { program := "ytnofenejoebkhaagreat", sum := "6c4425289749121962c60c9e7c8284aea5641785af14bef09082eca9670585c0", func := "spinney/spinneylaw22.EngineFull", spec := "engineFull", inPlace := ["sync/atomic.AddInt64", "sync/atomic.LoadUint64", "sync/atomic.CompareAndSwapUint64", "sync/atomic.StoreUint64"], unfollowed := true, recurses := true, apart := false }
def EngineFullSaid : Prop := engineFullRow.holds Tryz.pinned (OpenSpec.ofChange engineFullSpec)

/-- ITS FALSE NEIGHBOUR: 'it returns false'. Refute it at one input. -/
def engineFullWrong : ChangeSpec := { name := "engineFull", fn := fun _ => fun
  | [d1, d2] => { results := [.lit (.bool false)], args := [d1, d2] }
  | _ => none }
def EngineFullWrongFalsely : Prop := engineFullRow.holds Tryz.pinned (OpenSpec.ofChange engineFullWrong)

/-- 'spinneytop.WholeCache': WHATEVER THE INPUT: true; the input reads as it did. -/
def wholeCacheSpec : ChangeSpec := { name := "wholeCache", fn := fun _ => fun
  | [d1, d2, d3, d4] => { results := [.lit (.bool true)], args := [d1, d2, d3, d4] }
  | _ => none }
def wholeCacheRow : OpenClaim := { program := "ytnofenejoebkhaagreat", sum := "6c4425289749121962c60c9e7c8284aea5641785af14bef09082eca9670585c0", func := "spinney/spinneytop.WholeCache", spec := "wholeCache", inPlace := ["sync/atomic.AddInt64", "sync/atomic.LoadUint64", "sync/atomic.CompareAndSwapUint64", "sync/atomic.StoreUint64"], unfollowed := true, recurses := true, apart := false }
def WholeCacheSaid : Prop := wholeCacheRow.holds Tryz.pinned (OpenSpec.ofChange wholeCacheSpec)

/-- ITS FALSE NEIGHBOUR: 'it returns false'. Refute it at one input. -/
def wholeCacheWrong : ChangeSpec := { name := "wholeCache", fn := fun _ => fun
  | [d1, d2, d3, d4] => { results := [.lit (.bool false)], args := [d1, d2, d3, d4] }
  | _ => none }
def WholeCacheWrongFalsely : Prop := wholeCacheRow.holds Tryz.pinned (OpenSpec.ofChange wholeCacheWrong)

/-- 'spinneytop.WholeTotal': WHATEVER THE INPUT: true; the input reads as it did. -/
def wholeTotalSpec : ChangeSpec := { name := "wholeTotal", fn := fun _ => fun
  | [d1, d2, d3, d4, d5, d6] => { results := [.lit (.bool true)], args := [d1, d2, d3, d4, d5, d6] }
  | _ => none }
def wholeTotalRow : OpenClaim := { program := "ytnofenejoebkhaagreat", sum := "6c4425289749121962c60c9e7c8284aea5641785af14bef09082eca9670585c0", func := "spinney/spinneytop.WholeTotal", spec := "wholeTotal", inPlace := ["sync/atomic.AddInt64", "sync/atomic.LoadUint64", "sync/atomic.CompareAndSwapUint64", "sync/atomic.StoreUint64"], unfollowed := true, recurses := true, apart := false }
def WholeTotalSaid : Prop := wholeTotalRow.holds Tryz.pinned (OpenSpec.ofChange wholeTotalSpec)

/-- ITS FALSE NEIGHBOUR: 'it returns false'. Refute it at one input. -/
def wholeTotalWrong : ChangeSpec := { name := "wholeTotal", fn := fun _ => fun
  | [d1, d2, d3, d4, d5, d6] => { results := [.lit (.bool false)], args := [d1, d2, d3, d4, d5, d6] }
  | _ => none }
def WholeTotalWrongFalsely : Prop := wholeTotalRow.holds Tryz.pinned (OpenSpec.ofChange wholeTotalWrong)

/- THE SECOND FORM. 'bulk': how many values and letters a reading holds, each counted each time it is reached (what is shared counts as often as it is met; a slice's spare places count too). A statement '..UptoSaid' is the law's where the arguments, and the package variables that the reading takes, are together of bulk at most 1048576: NARROWER than '..Said'. Prove '..Said' where nothing that the law and all that it calls make is longer than what came in: it says more and counts as full. Else prove '..UptoSaid'. A law counts once. -/
mutual
def uptoBulk {H : Type} : DataW H → Nat
  | .lit (.string bytes) => bytes.length + 1
  | .lit _ => 1
  | .nil => 1
  | .ptr d => uptoBulk d + 1
  | .slice elems spare => uptoBulkAll elems + uptoBulkAll spare + 1
  | .agg parts => uptoBulkAll parts + 1
  | .iface _ d => uptoBulk d + 1
  | .map entries => uptoBulkEntries entries + 1
  | .held _ => 1
def uptoBulkAll {H : Type} : List (DataW H) → Nat
  | [] => 0
  | d :: r => uptoBulk d + uptoBulkAll r
def uptoBulkEntries {H : Type} : List (Lit × DataW H) → Nat
  | [] => 0
  | x :: r => uptoBulkEntry x + uptoBulkEntries r
def uptoBulkEntry {H : Type} : Lit × DataW H → Nat
  | (.string bytes, d) => bytes.length + uptoBulk d + 1
  | (_, d) => uptoBulk d + 1
 end
def uptoSmall : (H : Type) → List (DataW H) → Bool := fun _ ds => decide (uptoBulkAll ds ≤ 1048576)
def OpenSpec.upto (s : _root_.Go.ChangeSpec) : _root_.Go.OpenSpec := { _root_.Go.OpenSpec.ofChange s with cond := some uptoSmall }

/-- 'spinneytop.WholeAnswers', WHERE WHAT IT READS IS OF BULK AT MOST 1048576: true; the input reads as it did. -/
def wholeAnswersUptoRow : OpenClaim := { program := "ytnofenejoebkhaagreat", sum := "6c4425289749121962c60c9e7c8284aea5641785af14bef09082eca9670585c0", func := "spinney/spinneytop.WholeAnswers", spec := "wholeAnswers", inPlace := ["sync/atomic.AddInt64", "sync/atomic.LoadUint64", "sync/atomic.CompareAndSwapUint64", "sync/atomic.StoreUint64"], unfollowed := true, recurses := true, apart := false, narrowed := true }
def WholeAnswersUptoSaid : Prop := wholeAnswersUptoRow.holds Tryz.pinned (OpenSpec.upto wholeAnswersSpec)

/-- 'spinneytop.WholeOnce', WHERE WHAT IT READS IS OF BULK AT MOST 1048576: true; the input reads as it did. -/
def wholeOnceUptoRow : OpenClaim := { program := "ytnofenejoebkhaagreat", sum := "6c4425289749121962c60c9e7c8284aea5641785af14bef09082eca9670585c0", func := "spinney/spinneytop.WholeOnce", spec := "wholeOnce", inPlace := ["sync/atomic.AddInt64", "sync/atomic.LoadUint64", "sync/atomic.CompareAndSwapUint64", "sync/atomic.StoreUint64"], unfollowed := true, recurses := true, apart := false, narrowed := true }
def WholeOnceUptoSaid : Prop := wholeOnceUptoRow.holds Tryz.pinned (OpenSpec.upto wholeOnceSpec)

/-- 'spinneytop.WholeFull', WHERE WHAT IT READS IS OF BULK AT MOST 1048576: true; the input reads as it did. -/
def wholeFullUptoRow : OpenClaim := { program := "ytnofenejoebkhaagreat", sum := "6c4425289749121962c60c9e7c8284aea5641785af14bef09082eca9670585c0", func := "spinney/spinneytop.WholeFull", spec := "wholeFull", inPlace := ["sync/atomic.AddInt64", "sync/atomic.LoadUint64", "sync/atomic.CompareAndSwapUint64", "sync/atomic.StoreUint64"], unfollowed := true, recurses := true, apart := false, narrowed := true }
def WholeFullUptoSaid : Prop := wholeFullUptoRow.holds Tryz.pinned (OpenSpec.upto wholeFullSpec)

/-- 'spinneylaw21.PoolMany', WHERE WHAT IT READS IS OF BULK AT MOST 1048576: true; the input reads as it did. -/
def poolManyUptoRow : OpenClaim := { program := "ytnofenejoebkhaagreat", sum := "6c4425289749121962c60c9e7c8284aea5641785af14bef09082eca9670585c0", func := "spinney/spinneylaw21.PoolMany", spec := "poolMany", inPlace := ["sync/atomic.AddInt64", "sync/atomic.LoadUint64", "sync/atomic.CompareAndSwapUint64", "sync/atomic.StoreUint64"], unfollowed := true, recurses := true, apart := false, narrowed := true }
def PoolManyUptoSaid : Prop := poolManyUptoRow.holds Tryz.pinned (OpenSpec.upto poolManySpec)

/-- 'spinneylaw22.EngineCollects', WHERE WHAT IT READS IS OF BULK AT MOST 1048576: true; the input reads as it did. -/
def engineCollectsUptoRow : OpenClaim := { program := "ytnofenejoebkhaagreat", sum := "6c4425289749121962c60c9e7c8284aea5641785af14bef09082eca9670585c0", func := "spinney/spinneylaw22.EngineCollects", spec := "engineCollects", inPlace := ["sync/atomic.AddInt64", "sync/atomic.LoadUint64", "sync/atomic.CompareAndSwapUint64", "sync/atomic.StoreUint64"], unfollowed := true, recurses := true, apart := false, narrowed := true }
def EngineCollectsUptoSaid : Prop := engineCollectsUptoRow.holds Tryz.pinned (OpenSpec.upto engineCollectsSpec)

/-- 'spinneylaw22.EngineSame', WHERE WHAT IT READS IS OF BULK AT MOST 1048576: true; the input reads as it did. -/
def engineSameUptoRow : OpenClaim := { program := "ytnofenejoebkhaagreat", sum := "6c4425289749121962c60c9e7c8284aea5641785af14bef09082eca9670585c0", func := "spinney/spinneylaw22.EngineSame", spec := "engineSame", inPlace := ["sync/atomic.AddInt64", "sync/atomic.LoadUint64", "sync/atomic.CompareAndSwapUint64", "sync/atomic.StoreUint64"], unfollowed := true, recurses := true, apart := false, narrowed := true }
def EngineSameUptoSaid : Prop := engineSameUptoRow.holds Tryz.pinned (OpenSpec.upto engineSameSpec)

/-- 'spinneylaw22.EngineBusy', WHERE WHAT IT READS IS OF BULK AT MOST 1048576: true; the input reads as it did. -/
def engineBusyUptoRow : OpenClaim := { program := "ytnofenejoebkhaagreat", sum := "6c4425289749121962c60c9e7c8284aea5641785af14bef09082eca9670585c0", func := "spinney/spinneylaw22.EngineBusy", spec := "engineBusy", inPlace := ["sync/atomic.AddInt64", "sync/atomic.LoadUint64", "sync/atomic.CompareAndSwapUint64", "sync/atomic.StoreUint64"], unfollowed := true, recurses := true, apart := false, narrowed := true }
def EngineBusyUptoSaid : Prop := engineBusyUptoRow.holds Tryz.pinned (OpenSpec.upto engineBusySpec)

/-- 'spinneylaw22.EngineCountsUp', WHERE WHAT IT READS IS OF BULK AT MOST 1048576: true; the input reads as it did. -/
def engineCountsUpUptoRow : OpenClaim := { program := "ytnofenejoebkhaagreat", sum := "6c4425289749121962c60c9e7c8284aea5641785af14bef09082eca9670585c0", func := "spinney/spinneylaw22.EngineCountsUp", spec := "engineCountsUp", inPlace := ["sync/atomic.AddInt64", "sync/atomic.LoadUint64", "sync/atomic.CompareAndSwapUint64", "sync/atomic.StoreUint64"], unfollowed := true, recurses := true, apart := false, narrowed := true }
def EngineCountsUpUptoSaid : Prop := engineCountsUpUptoRow.holds Tryz.pinned (OpenSpec.upto engineCountsUpSpec)

/-- 'spinneylaw22.EngineRegs', WHERE WHAT IT READS IS OF BULK AT MOST 1048576: true; the input reads as it did. -/
def engineRegsUptoRow : OpenClaim := { program := "ytnofenejoebkhaagreat", sum := "6c4425289749121962c60c9e7c8284aea5641785af14bef09082eca9670585c0", func := "spinney/spinneylaw22.EngineRegs", spec := "engineRegs", inPlace := ["sync/atomic.AddInt64", "sync/atomic.LoadUint64", "sync/atomic.CompareAndSwapUint64", "sync/atomic.StoreUint64"], unfollowed := true, recurses := true, apart := false, narrowed := true }
def EngineRegsUptoSaid : Prop := engineRegsUptoRow.holds Tryz.pinned (OpenSpec.upto engineRegsSpec)

/-- 'spinneylaw22.EngineStands', WHERE WHAT IT READS IS OF BULK AT MOST 1048576: true; the input reads as it did. -/
def engineStandsUptoRow : OpenClaim := { program := "ytnofenejoebkhaagreat", sum := "6c4425289749121962c60c9e7c8284aea5641785af14bef09082eca9670585c0", func := "spinney/spinneylaw22.EngineStands", spec := "engineStands", inPlace := ["sync/atomic.AddInt64", "sync/atomic.LoadUint64", "sync/atomic.CompareAndSwapUint64", "sync/atomic.StoreUint64"], unfollowed := true, recurses := true, apart := false, narrowed := true }
def EngineStandsUptoSaid : Prop := engineStandsUptoRow.holds Tryz.pinned (OpenSpec.upto engineStandsSpec)

/-- 'spinneylaw22.EngineClears', WHERE WHAT IT READS IS OF BULK AT MOST 1048576: true; the input reads as it did. -/
def engineClearsUptoRow : OpenClaim := { program := "ytnofenejoebkhaagreat", sum := "6c4425289749121962c60c9e7c8284aea5641785af14bef09082eca9670585c0", func := "spinney/spinneylaw22.EngineClears", spec := "engineClears", inPlace := ["sync/atomic.AddInt64", "sync/atomic.LoadUint64", "sync/atomic.CompareAndSwapUint64", "sync/atomic.StoreUint64"], unfollowed := true, recurses := true, apart := false, narrowed := true }
def EngineClearsUptoSaid : Prop := engineClearsUptoRow.holds Tryz.pinned (OpenSpec.upto engineClearsSpec)

/-- 'spinneylaw22.EngineFull', WHERE WHAT IT READS IS OF BULK AT MOST 1048576: true; the input reads as it did. -/
def engineFullUptoRow : OpenClaim := { program := "ytnofenejoebkhaagreat", sum := "6c4425289749121962c60c9e7c8284aea5641785af14bef09082eca9670585c0", func := "spinney/spinneylaw22.EngineFull", spec := "engineFull", inPlace := ["sync/atomic.AddInt64", "sync/atomic.LoadUint64", "sync/atomic.CompareAndSwapUint64", "sync/atomic.StoreUint64"], unfollowed := true, recurses := true, apart := false, narrowed := true }
def EngineFullUptoSaid : Prop := engineFullUptoRow.holds Tryz.pinned (OpenSpec.upto engineFullSpec)

/-- 'spinneytop.WholeCache', WHERE WHAT IT READS IS OF BULK AT MOST 1048576: true; the input reads as it did. -/
def wholeCacheUptoRow : OpenClaim := { program := "ytnofenejoebkhaagreat", sum := "6c4425289749121962c60c9e7c8284aea5641785af14bef09082eca9670585c0", func := "spinney/spinneytop.WholeCache", spec := "wholeCache", inPlace := ["sync/atomic.AddInt64", "sync/atomic.LoadUint64", "sync/atomic.CompareAndSwapUint64", "sync/atomic.StoreUint64"], unfollowed := true, recurses := true, apart := false, narrowed := true }
def WholeCacheUptoSaid : Prop := wholeCacheUptoRow.holds Tryz.pinned (OpenSpec.upto wholeCacheSpec)

/-- 'spinneytop.WholeTotal', WHERE WHAT IT READS IS OF BULK AT MOST 1048576: true; the input reads as it did. -/
def wholeTotalUptoRow : OpenClaim := { program := "ytnofenejoebkhaagreat", sum := "6c4425289749121962c60c9e7c8284aea5641785af14bef09082eca9670585c0", func := "spinney/spinneytop.WholeTotal", spec := "wholeTotal", inPlace := ["sync/atomic.AddInt64", "sync/atomic.LoadUint64", "sync/atomic.CompareAndSwapUint64", "sync/atomic.StoreUint64"], unfollowed := true, recurses := true, apart := false, narrowed := true }
def WholeTotalUptoSaid : Prop := wholeTotalUptoRow.holds Tryz.pinned (OpenSpec.upto wholeTotalSpec)

end Rows
end Go.Proofs.YtnofenejoebkhaaGreat
