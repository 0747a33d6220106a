/-
  No cell of these rows narrows 'for every input' (looked for: loops, veiled, ifaces, maps, wideKeys, modest, calm, conditions, laid).
  DERIVED. THE GIVEN ROWS OF THIS SEAT. 8 by the template 'for every input the law returns true; each argument reads behind the call as it read before'; 0 by the template 'total and deterministic' (their statements: YtipckkeaoncjiaaTotals.lean).
  GIVEN WITH THE SEED: the statements are not yours to turn. If you find one false, say at which input.
  Laid BY PROGRAM, IN A SANDBOX (cutbox-rows.mjs): the forced cells as the released guide's own fill.sh prints them over the translation 8410a89ca61cd822… (all of the seat's roots in one cut). By AI agents, Wed Nov 11 2026. No macro, syntax, notation, axiom, sorry.
-/
import Derived.Test.YtipckkeaoncjiaaChecked
import GoSem.Claim
import GoSem.ClaimJoined
import GoSem.ClaimMapViews
import Derived.JoinedTies
import Derived.KernelRfl
namespace Go.Proofs.Ytipckkeaoncjiaa
/- THE CELL 'sum', in the pinned program and in every row, IS THE sha256 OF THE DUMP (.gsa) THAT YtipckkeaoncjiaaProg.lean LOADS. Nothing in Lean hashes anything: it is a label: what it is worth is what the hold of that sum in a sandbox is worth. -/
noncomputable def Try.pinned : Pinned := { name := "ytipckkeaoncjiaa", sum := "8410a89ca61cd8225a4b42766516628aa8149d8ebe2ab290aeedffe62fde1bf2", checked := Try.checked }
namespace Rows
def none {H : Type} : Left H := { results := [], args := [] }

/-- 'spinneylaw8.DequePlays': WHATEVER THE INPUT: true; the input reads as it did. -/
def dequePlaysSpec : ChangeSpec := { name := "dequePlays", fn := fun _ => fun
  | [d1, d2] => { results := [.lit (.bool true)], args := [d1, d2] }
  | _ => none }
def dequePlaysRow : OpenClaim := { program := "ytipckkeaoncjiaa", sum := "8410a89ca61cd8225a4b42766516628aa8149d8ebe2ab290aeedffe62fde1bf2", func := "spinney/spinneylaw8.DequePlays", spec := "dequePlays", inPlace := ["sync/atomic.AddInt64", "sync/atomic.LoadUint64", "sync/atomic.StoreUint64", "sync/atomic.CompareAndSwapUint64"], unfollowed := true, recurses := true, apart := false }
def DequePlaysSaid : Prop := dequePlaysRow.holds Try.pinned (OpenSpec.ofChange dequePlaysSpec)

/-- ITS FALSE NEIGHBOUR: 'it returns false'. Refute it at one input. -/
def dequePlaysWrong : ChangeSpec := { name := "dequePlays", fn := fun _ => fun
  | [d1, d2] => { results := [.lit (.bool false)], args := [d1, d2] }
  | _ => none }
def DequePlaysWrongFalsely : Prop := dequePlaysRow.holds Try.pinned (OpenSpec.ofChange dequePlaysWrong)

/-- 'spinneylaw8.DequeOrder': WHATEVER THE INPUT: true; the input reads as it did. -/
def dequeOrderSpec : ChangeSpec := { name := "dequeOrder", fn := fun _ => fun
  | [d1, d2, d3] => { results := [.lit (.bool true)], args := [d1, d2, d3] }
  | _ => none }
def dequeOrderRow : OpenClaim := { program := "ytipckkeaoncjiaa", sum := "8410a89ca61cd8225a4b42766516628aa8149d8ebe2ab290aeedffe62fde1bf2", func := "spinney/spinneylaw8.DequeOrder", spec := "dequeOrder", inPlace := ["sync/atomic.AddInt64", "sync/atomic.LoadUint64", "sync/atomic.StoreUint64", "sync/atomic.CompareAndSwapUint64"], unfollowed := true, recurses := true, apart := false }
def DequeOrderSaid : Prop := dequeOrderRow.holds Try.pinned (OpenSpec.ofChange dequeOrderSpec)

/-- ITS FALSE NEIGHBOUR: 'it returns false'. Refute it at one input. -/
def dequeOrderWrong : ChangeSpec := { name := "dequeOrder", fn := fun _ => fun
  | [d1, d2, d3] => { results := [.lit (.bool false)], args := [d1, d2, d3] }
  | _ => none }
def DequeOrderWrongFalsely : Prop := dequeOrderRow.holds Try.pinned (OpenSpec.ofChange dequeOrderWrong)

/-- 'spinneylaw8.DequeCells': WHATEVER THE INPUT: true; the input reads as it did. -/
def dequeCellsSpec : ChangeSpec := { name := "dequeCells", fn := fun _ => fun
  | [d1, d2] => { results := [.lit (.bool true)], args := [d1, d2] }
  | _ => none }
def dequeCellsRow : OpenClaim := { program := "ytipckkeaoncjiaa", sum := "8410a89ca61cd8225a4b42766516628aa8149d8ebe2ab290aeedffe62fde1bf2", func := "spinney/spinneylaw8.DequeCells", spec := "dequeCells", inPlace := ["sync/atomic.AddInt64", "sync/atomic.LoadUint64", "sync/atomic.StoreUint64", "sync/atomic.CompareAndSwapUint64"], unfollowed := true, recurses := true, apart := false }
def DequeCellsSaid : Prop := dequeCellsRow.holds Try.pinned (OpenSpec.ofChange dequeCellsSpec)

/-- ITS FALSE NEIGHBOUR: 'it returns false'. Refute it at one input. -/
def dequeCellsWrong : ChangeSpec := { name := "dequeCells", fn := fun _ => fun
  | [d1, d2] => { results := [.lit (.bool false)], args := [d1, d2] }
  | _ => none }
def DequeCellsWrongFalsely : Prop := dequeCellsRow.holds Try.pinned (OpenSpec.ofChange dequeCellsWrong)

/-- 'spinneylaw8.DequeLast': WHATEVER THE INPUT: true; the input reads as it did. -/
def dequeLastSpec : ChangeSpec := { name := "dequeLast", fn := fun _ => fun
  | [d1, d2] => { results := [.lit (.bool true)], args := [d1, d2] }
  | _ => none }
def dequeLastRow : OpenClaim := { program := "ytipckkeaoncjiaa", sum := "8410a89ca61cd8225a4b42766516628aa8149d8ebe2ab290aeedffe62fde1bf2", func := "spinney/spinneylaw8.DequeLast", spec := "dequeLast", inPlace := ["sync/atomic.AddInt64", "sync/atomic.LoadUint64", "sync/atomic.StoreUint64", "sync/atomic.CompareAndSwapUint64"], unfollowed := true, recurses := true, apart := false }
def DequeLastSaid : Prop := dequeLastRow.holds Try.pinned (OpenSpec.ofChange dequeLastSpec)

/-- ITS FALSE NEIGHBOUR: 'it returns false'. Refute it at one input. -/
def dequeLastWrong : ChangeSpec := { name := "dequeLast", fn := fun _ => fun
  | [d1, d2] => { results := [.lit (.bool false)], args := [d1, d2] }
  | _ => none }
def DequeLastWrongFalsely : Prop := dequeLastRow.holds Try.pinned (OpenSpec.ofChange dequeLastWrong)

/-- 'spinneylaw8.DequeTurns': WHATEVER THE INPUT: true; the input reads as it did. -/
def dequeTurnsSpec : ChangeSpec := { name := "dequeTurns", fn := fun _ => fun
  | [d1, d2] => { results := [.lit (.bool true)], args := [d1, d2] }
  | _ => none }
def dequeTurnsRow : OpenClaim := { program := "ytipckkeaoncjiaa", sum := "8410a89ca61cd8225a4b42766516628aa8149d8ebe2ab290aeedffe62fde1bf2", func := "spinney/spinneylaw8.DequeTurns", spec := "dequeTurns", inPlace := ["sync/atomic.AddInt64", "sync/atomic.LoadUint64", "sync/atomic.StoreUint64", "sync/atomic.CompareAndSwapUint64", "sync/atomic.LoadInt64"], unfollowed := true, recurses := true, apart := false }
def DequeTurnsSaid : Prop := dequeTurnsRow.holds Try.pinned (OpenSpec.ofChange dequeTurnsSpec)

/-- ITS FALSE NEIGHBOUR: 'it returns false'. Refute it at one input. -/
def dequeTurnsWrong : ChangeSpec := { name := "dequeTurns", fn := fun _ => fun
  | [d1, d2] => { results := [.lit (.bool false)], args := [d1, d2] }
  | _ => none }
def DequeTurnsWrongFalsely : Prop := dequeTurnsRow.holds Try.pinned (OpenSpec.ofChange dequeTurnsWrong)

/-- 'spinneylaw9.RefsStacks': WHATEVER THE INPUT: true; the input reads as it did. -/
def refsStacksSpec : ChangeSpec := { name := "refsStacks", fn := fun _ => fun
  | [d1, d2] => { results := [.lit (.bool true)], args := [d1, d2] }
  | _ => none }
def refsStacksRow : OpenClaim := { program := "ytipckkeaoncjiaa", sum := "8410a89ca61cd8225a4b42766516628aa8149d8ebe2ab290aeedffe62fde1bf2", func := "spinney/spinneylaw9.RefsStacks", spec := "refsStacks", unfollowed := true, recurses := true, apart := false }
def RefsStacksSaid : Prop := refsStacksRow.holds Try.pinned (OpenSpec.ofChange refsStacksSpec)

/-- ITS FALSE NEIGHBOUR: 'it returns false'. Refute it at one input. -/
def refsStacksWrong : ChangeSpec := { name := "refsStacks", fn := fun _ => fun
  | [d1, d2] => { results := [.lit (.bool false)], args := [d1, d2] }
  | _ => none }
def RefsStacksWrongFalsely : Prop := refsStacksRow.holds Try.pinned (OpenSpec.ofChange refsStacksWrong)

/-- 'spinneylaw9.RefsCounts': WHATEVER THE INPUT: true; the input reads as it did. -/
def refsCountsSpec : ChangeSpec := { name := "refsCounts", fn := fun _ => fun
  | [d1, d2] => { results := [.lit (.bool true)], args := [d1, d2] }
  | _ => none }
def refsCountsRow : OpenClaim := { program := "ytipckkeaoncjiaa", sum := "8410a89ca61cd8225a4b42766516628aa8149d8ebe2ab290aeedffe62fde1bf2", func := "spinney/spinneylaw9.RefsCounts", spec := "refsCounts", unfollowed := true, recurses := true, apart := false }
def RefsCountsSaid : Prop := refsCountsRow.holds Try.pinned (OpenSpec.ofChange refsCountsSpec)

/-- ITS FALSE NEIGHBOUR: 'it returns false'. Refute it at one input. -/
def refsCountsWrong : ChangeSpec := { name := "refsCounts", fn := fun _ => fun
  | [d1, d2] => { results := [.lit (.bool false)], args := [d1, d2] }
  | _ => none }
def RefsCountsWrongFalsely : Prop := refsCountsRow.holds Try.pinned (OpenSpec.ofChange refsCountsWrong)

/-- 'spinneylaw9.RefsPlay': WHATEVER THE INPUT: true; the input reads as it did. -/
def refsPlaySpec : ChangeSpec := { name := "refsPlay", fn := fun _ => fun
  | [d1, d2] => { results := [.lit (.bool true)], args := [d1, d2] }
  | _ => none }
def refsPlayRow : OpenClaim := { program := "ytipckkeaoncjiaa", sum := "8410a89ca61cd8225a4b42766516628aa8149d8ebe2ab290aeedffe62fde1bf2", func := "spinney/spinneylaw9.RefsPlay", spec := "refsPlay", unfollowed := true, recurses := true, apart := false }
def RefsPlaySaid : Prop := refsPlayRow.holds Try.pinned (OpenSpec.ofChange refsPlaySpec)

/-- ITS FALSE NEIGHBOUR: 'it returns false'. Refute it at one input. -/
def refsPlayWrong : ChangeSpec := { name := "refsPlay", fn := fun _ => fun
  | [d1, d2] => { results := [.lit (.bool false)], args := [d1, d2] }
  | _ => none }
def RefsPlayWrongFalsely : Prop := refsPlayRow.holds Try.pinned (OpenSpec.ofChange refsPlayWrong)

/- THE SECOND FORM. 'bulk': how many values and letters a reading holds, each counted each time it is reached (what is shared counts as often as it is met; a slice's spare places count too). A statement '..UptoSaid' is the law's where the arguments, and the package variables that the reading takes, are together of bulk at most 1048576: NARROWER than '..Said'. Prove '..Said' where nothing that the law and all that it calls make is longer than what came in: it says more and counts as full. Else prove '..UptoSaid'. A law counts once. -/
mutual
def uptoBulk {H : Type} : DataW H → Nat
  | .lit (.string bytes) => bytes.length + 1
  | .lit _ => 1
  | .nil => 1
  | .ptr d => uptoBulk d + 1
  | .slice elems spare => uptoBulkAll elems + uptoBulkAll spare + 1
  | .agg parts => uptoBulkAll parts + 1
  | .iface _ d => uptoBulk d + 1
  | .map entries => uptoBulkEntries entries + 1
  | .held _ => 1
def uptoBulkAll {H : Type} : List (DataW H) → Nat
  | [] => 0
  | d :: r => uptoBulk d + uptoBulkAll r
def uptoBulkEntries {H : Type} : List (Lit × DataW H) → Nat
  | [] => 0
  | x :: r => uptoBulkEntry x + uptoBulkEntries r
def uptoBulkEntry {H : Type} : Lit × DataW H → Nat
  | (.string bytes, d) => bytes.length + uptoBulk d + 1
  | (_, d) => uptoBulk d + 1
 end
def uptoSmall : (H : Type) → List (DataW H) → Bool := fun _ ds => decide (uptoBulkAll ds ≤ 1048576)
def OpenSpec.upto (s : _root_.Go.ChangeSpec) : _root_.Go.OpenSpec := { _root_.Go.OpenSpec.ofChange s with cond := some uptoSmall }

/-- 'spinneylaw8.DequePlays', WHERE WHAT IT READS IS OF BULK AT MOST 1048576: true; the input reads as it did. -/
def dequePlaysUptoRow : OpenClaim := { program := "ytipckkeaoncjiaa", sum := "8410a89ca61cd8225a4b42766516628aa8149d8ebe2ab290aeedffe62fde1bf2", func := "spinney/spinneylaw8.DequePlays", spec := "dequePlays", inPlace := ["sync/atomic.AddInt64", "sync/atomic.LoadUint64", "sync/atomic.StoreUint64", "sync/atomic.CompareAndSwapUint64"], unfollowed := true, recurses := true, apart := false, narrowed := true }
def DequePlaysUptoSaid : Prop := dequePlaysUptoRow.holds Try.pinned (OpenSpec.upto dequePlaysSpec)

/-- 'spinneylaw8.DequeOrder', WHERE WHAT IT READS IS OF BULK AT MOST 1048576: true; the input reads as it did. -/
def dequeOrderUptoRow : OpenClaim := { program := "ytipckkeaoncjiaa", sum := "8410a89ca61cd8225a4b42766516628aa8149d8ebe2ab290aeedffe62fde1bf2", func := "spinney/spinneylaw8.DequeOrder", spec := "dequeOrder", inPlace := ["sync/atomic.AddInt64", "sync/atomic.LoadUint64", "sync/atomic.StoreUint64", "sync/atomic.CompareAndSwapUint64"], unfollowed := true, recurses := true, apart := false, narrowed := true }
def DequeOrderUptoSaid : Prop := dequeOrderUptoRow.holds Try.pinned (OpenSpec.upto dequeOrderSpec)

/-- 'spinneylaw8.DequeCells', WHERE WHAT IT READS IS OF BULK AT MOST 1048576: true; the input reads as it did. -/
def dequeCellsUptoRow : OpenClaim := { program := "ytipckkeaoncjiaa", sum := "8410a89ca61cd8225a4b42766516628aa8149d8ebe2ab290aeedffe62fde1bf2", func := "spinney/spinneylaw8.DequeCells", spec := "dequeCells", inPlace := ["sync/atomic.AddInt64", "sync/atomic.LoadUint64", "sync/atomic.StoreUint64", "sync/atomic.CompareAndSwapUint64"], unfollowed := true, recurses := true, apart := false, narrowed := true }
def DequeCellsUptoSaid : Prop := dequeCellsUptoRow.holds Try.pinned (OpenSpec.upto dequeCellsSpec)

/-- 'spinneylaw8.DequeLast', WHERE WHAT IT READS IS OF BULK AT MOST 1048576: true; the input reads as it did. -/
def dequeLastUptoRow : OpenClaim := { program := "ytipckkeaoncjiaa", sum := "8410a89ca61cd8225a4b42766516628aa8149d8ebe2ab290aeedffe62fde1bf2", func := "spinney/spinneylaw8.DequeLast", spec := "dequeLast", inPlace := ["sync/atomic.AddInt64", "sync/atomic.LoadUint64", "sync/atomic.StoreUint64", "sync/atomic.CompareAndSwapUint64"], unfollowed := true, recurses := true, apart := false, narrowed := true }
def DequeLastUptoSaid : Prop := dequeLastUptoRow.holds Try.pinned (OpenSpec.upto dequeLastSpec)

/-- 'spinneylaw8.DequeTurns', WHERE WHAT IT READS IS OF BULK AT MOST 1048576: true; the input reads as it did. -/
def dequeTurnsUptoRow : OpenClaim := { program := "ytipckkeaoncjiaa", sum := "8410a89ca61cd8225a4b42766516628aa8149d8ebe2ab290aeedffe62fde1bf2", func := "spinney/spinneylaw8.DequeTurns", spec := "dequeTurns", inPlace := ["sync/atomic.AddInt64", "sync/atomic.LoadUint64", "sync/atomic.StoreUint64", "sync/atomic.CompareAndSwapUint64", "sync/atomic.LoadInt64"], unfollowed := true, recurses := true, apart := false, narrowed := true }
def DequeTurnsUptoSaid : Prop := dequeTurnsUptoRow.holds Try.pinned (OpenSpec.upto dequeTurnsSpec)

/-- 'spinneylaw9.RefsStacks', WHERE WHAT IT READS IS OF BULK AT MOST 1048576: true; the input reads as it did. -/
def refsStacksUptoRow : OpenClaim := { program := "ytipckkeaoncjiaa", sum := "8410a89ca61cd8225a4b42766516628aa8149d8ebe2ab290aeedffe62fde1bf2", func := "spinney/spinneylaw9.RefsStacks", spec := "refsStacks", unfollowed := true, recurses := true, apart := false, narrowed := true }
def RefsStacksUptoSaid : Prop := refsStacksUptoRow.holds Try.pinned (OpenSpec.upto refsStacksSpec)

/-- 'spinneylaw9.RefsCounts', WHERE WHAT IT READS IS OF BULK AT MOST 1048576: true; the input reads as it did. -/
def refsCountsUptoRow : OpenClaim := { program := "ytipckkeaoncjiaa", sum := "8410a89ca61cd8225a4b42766516628aa8149d8ebe2ab290aeedffe62fde1bf2", func := "spinney/spinneylaw9.RefsCounts", spec := "refsCounts", unfollowed := true, recurses := true, apart := false, narrowed := true }
def RefsCountsUptoSaid : Prop := refsCountsUptoRow.holds Try.pinned (OpenSpec.upto refsCountsSpec)

/-- 'spinneylaw9.RefsPlay', WHERE WHAT IT READS IS OF BULK AT MOST 1048576: true; the input reads as it did. -/
def refsPlayUptoRow : OpenClaim := { program := "ytipckkeaoncjiaa", sum := "8410a89ca61cd8225a4b42766516628aa8149d8ebe2ab290aeedffe62fde1bf2", func := "spinney/spinneylaw9.RefsPlay", spec := "refsPlay", unfollowed := true, recurses := true, apart := false, narrowed := true }
def RefsPlayUptoSaid : Prop := refsPlayUptoRow.holds Try.pinned (OpenSpec.upto refsPlaySpec)

end Rows
end Go.Proofs.Ytipckkeaoncjiaa
