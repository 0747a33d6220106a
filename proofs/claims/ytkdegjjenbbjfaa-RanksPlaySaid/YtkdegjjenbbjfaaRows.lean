/-
  No cell of these rows narrows 'for every input' (looked for: loops, veiled, ifaces, maps, wideKeys, modest, calm, conditions, laid).
  DERIVED. THE GIVEN ROWS OF THIS SEAT. 10 by the template 'for every input the law returns true; each argument reads behind the call as it read before'; 0 by the template 'total and deterministic' (their statements: YtkdegjjenbbjfaaTotals.lean).
  GIVEN WITH THE SEED: the statements are not yours to turn. If you find one false, say at which input.
  Laid BY PROGRAM, IN A SANDBOX (cutbox-rows.mjs): the forced cells as the released guide's own fill.sh prints them over the translation 22b4b1ecda74e688… (all of the seat's roots in one cut). By AI agents, Wed Nov 11 2026. No macro, syntax, notation, axiom, sorry.
-/
import Derived.Test.YtkdegjjenbbjfaaChecked
import GoSem.Claim
import GoSem.ClaimJoined
import GoSem.ClaimMapViews
import Derived.JoinedTies
import Derived.KernelRfl
namespace Go.Proofs.Ytkdegjjenbbjfaa
/- THE CELL 'sum', in the pinned program and in every row, IS THE sha256 OF THE DUMP (.gsa) THAT YtkdegjjenbbjfaaProg.lean LOADS. Nothing in Lean hashes anything: it is a label: what it is worth is what the hold of that sum in a sandbox is worth. -/
noncomputable def Try.pinned : Pinned := { name := "ytkdegjjenbbjfaa", sum := "22b4b1ecda74e688fd24f83a12e3b348bbe7d024494a7a00592c503f48b76407", checked := Try.checked }
namespace Rows
def none {H : Type} : Left H := { results := [], args := [] }

/-- 'spinneylaw2.MemAdds': WHATEVER THE INPUT: true; the input reads as it did. -/
def memAddsSpec : ChangeSpec := { name := "memAdds", fn := fun _ => fun
  | [d] => { results := [.lit (.bool true)], args := [d] }
  | _ => none }
def memAddsRow : OpenClaim := { program := "ytkdegjjenbbjfaa", sum := "22b4b1ecda74e688fd24f83a12e3b348bbe7d024494a7a00592c503f48b76407", func := "spinney/spinneylaw2.MemAdds", spec := "memAdds", inPlace := ["sync/atomic.AddInt64", "sync/atomic.CompareAndSwapUint64", "sync/atomic.LoadUint64", "sync/atomic.AddUint64", "sync/atomic.LoadInt64"], unfollowed := true, recurses := true, apart := false }
def MemAddsSaid : Prop := memAddsRow.holds Try.pinned (OpenSpec.ofChange memAddsSpec)

/-- ITS FALSE NEIGHBOUR: 'it returns false'. Refute it at one input. -/
def memAddsWrong : ChangeSpec := { name := "memAdds", fn := fun _ => fun
  | [d] => { results := [.lit (.bool false)], args := [d] }
  | _ => none }
def MemAddsWrongFalsely : Prop := memAddsRow.holds Try.pinned (OpenSpec.ofChange memAddsWrong)

/-- 'spinneylaw2.MemSums': WHATEVER THE INPUT: true; the input reads as it did. -/
def memSumsSpec : ChangeSpec := { name := "memSums", fn := fun _ => fun
  | [d1, d2] => { results := [.lit (.bool true)], args := [d1, d2] }
  | _ => none }
def memSumsRow : OpenClaim := { program := "ytkdegjjenbbjfaa", sum := "22b4b1ecda74e688fd24f83a12e3b348bbe7d024494a7a00592c503f48b76407", func := "spinney/spinneylaw2.MemSums", spec := "memSums", inPlace := ["sync/atomic.AddInt64", "sync/atomic.CompareAndSwapUint64", "sync/atomic.LoadUint64", "sync/atomic.AddUint64", "sync/atomic.LoadInt64"], unfollowed := true, recurses := true, apart := false }
def MemSumsSaid : Prop := memSumsRow.holds Try.pinned (OpenSpec.ofChange memSumsSpec)

/-- ITS FALSE NEIGHBOUR: 'it returns false'. Refute it at one input. -/
def memSumsWrong : ChangeSpec := { name := "memSums", fn := fun _ => fun
  | [d1, d2] => { results := [.lit (.bool false)], args := [d1, d2] }
  | _ => none }
def MemSumsWrongFalsely : Prop := memSumsRow.holds Try.pinned (OpenSpec.ofChange memSumsWrong)

/-- 'spinneylaw4.OrderSwaps': WHATEVER THE INPUT: true; the input reads as it did. -/
def orderSwapsSpec : ChangeSpec := { name := "orderSwaps", fn := fun _ => fun
  | [d1, d2] => { results := [.lit (.bool true)], args := [d1, d2] }
  | _ => none }
def orderSwapsRow : OpenClaim := { program := "ytkdegjjenbbjfaa", sum := "22b4b1ecda74e688fd24f83a12e3b348bbe7d024494a7a00592c503f48b76407", func := "spinney/spinneylaw4.OrderSwaps", spec := "orderSwaps", apart := false }
def OrderSwapsSaid : Prop := orderSwapsRow.holds Try.pinned (OpenSpec.ofChange orderSwapsSpec)

/-- ITS FALSE NEIGHBOUR: 'it returns false'. Refute it at one input. -/
def orderSwapsWrong : ChangeSpec := { name := "orderSwaps", fn := fun _ => fun
  | [d1, d2] => { results := [.lit (.bool false)], args := [d1, d2] }
  | _ => none }
def OrderSwapsWrongFalsely : Prop := orderSwapsRow.holds Try.pinned (OpenSpec.ofChange orderSwapsWrong)

/-- 'spinneylaw2.MemPlays': WHATEVER THE INPUT: true; the input reads as it did. -/
def memPlaysSpec : ChangeSpec := { name := "memPlays", fn := fun _ => fun
  | [d1, d2] => { results := [.lit (.bool true)], args := [d1, d2] }
  | _ => none }
def memPlaysRow : OpenClaim := { program := "ytkdegjjenbbjfaa", sum := "22b4b1ecda74e688fd24f83a12e3b348bbe7d024494a7a00592c503f48b76407", func := "spinney/spinneylaw2.MemPlays", spec := "memPlays", inPlace := ["sync/atomic.AddInt64", "sync/atomic.CompareAndSwapUint64", "sync/atomic.LoadUint64", "sync/atomic.AddUint64", "sync/atomic.LoadInt64", "sync/atomic.StoreUint64"], unfollowed := true, recurses := true, apart := false }
def MemPlaysSaid : Prop := memPlaysRow.holds Try.pinned (OpenSpec.ofChange memPlaysSpec)

/-- ITS FALSE NEIGHBOUR: 'it returns false'. Refute it at one input. -/
def memPlaysWrong : ChangeSpec := { name := "memPlays", fn := fun _ => fun
  | [d1, d2] => { results := [.lit (.bool false)], args := [d1, d2] }
  | _ => none }
def MemPlaysWrongFalsely : Prop := memPlaysRow.holds Try.pinned (OpenSpec.ofChange memPlaysWrong)

/-- 'spinneylaw2.MemLocks': WHATEVER THE INPUT: true; the input reads as it did. -/
def memLocksSpec : ChangeSpec := { name := "memLocks", fn := fun _ => fun
  | [d] => { results := [.lit (.bool true)], args := [d] }
  | _ => none }
def memLocksRow : OpenClaim := { program := "ytkdegjjenbbjfaa", sum := "22b4b1ecda74e688fd24f83a12e3b348bbe7d024494a7a00592c503f48b76407", func := "spinney/spinneylaw2.MemLocks", spec := "memLocks", inPlace := ["sync/atomic.AddInt64", "sync/atomic.CompareAndSwapUint64", "sync/atomic.LoadUint64", "sync/atomic.AddUint64", "sync/atomic.LoadInt64", "sync/atomic.StoreUint64"], unfollowed := true, recurses := true, apart := false }
def MemLocksSaid : Prop := memLocksRow.holds Try.pinned (OpenSpec.ofChange memLocksSpec)

/-- ITS FALSE NEIGHBOUR: 'it returns false'. Refute it at one input. -/
def memLocksWrong : ChangeSpec := { name := "memLocks", fn := fun _ => fun
  | [d] => { results := [.lit (.bool false)], args := [d] }
  | _ => none }
def MemLocksWrongFalsely : Prop := memLocksRow.holds Try.pinned (OpenSpec.ofChange memLocksWrong)

/-- 'spinneylaw2.MemBounds': WHATEVER THE INPUT: true; the input reads as it did. -/
def memBoundsSpec : ChangeSpec := { name := "memBounds", fn := fun _ => fun
  | [d1, d2, d3] => { results := [.lit (.bool true)], args := [d1, d2, d3] }
  | _ => none }
def memBoundsRow : OpenClaim := { program := "ytkdegjjenbbjfaa", sum := "22b4b1ecda74e688fd24f83a12e3b348bbe7d024494a7a00592c503f48b76407", func := "spinney/spinneylaw2.MemBounds", spec := "memBounds", inPlace := ["sync/atomic.AddInt64", "sync/atomic.CompareAndSwapUint64", "sync/atomic.LoadUint64", "sync/atomic.AddUint64", "sync/atomic.LoadInt64", "sync/atomic.StoreUint64"], unfollowed := true, recurses := true, apart := false }
def MemBoundsSaid : Prop := memBoundsRow.holds Try.pinned (OpenSpec.ofChange memBoundsSpec)

/-- ITS FALSE NEIGHBOUR: 'it returns false'. Refute it at one input. -/
def memBoundsWrong : ChangeSpec := { name := "memBounds", fn := fun _ => fun
  | [d1, d2, d3] => { results := [.lit (.bool false)], args := [d1, d2, d3] }
  | _ => none }
def MemBoundsWrongFalsely : Prop := memBoundsRow.holds Try.pinned (OpenSpec.ofChange memBoundsWrong)

/-- 'spinneylaw5.RanksSort': WHATEVER THE INPUT: true; the input reads as it did. -/
def ranksSortSpec : ChangeSpec := { name := "ranksSort", fn := fun _ => fun
  | [d] => { results := [.lit (.bool true)], args := [d] }
  | _ => none }
def ranksSortRow : OpenClaim := { program := "ytkdegjjenbbjfaa", sum := "22b4b1ecda74e688fd24f83a12e3b348bbe7d024494a7a00592c503f48b76407", func := "spinney/spinneylaw5.RanksSort", spec := "ranksSort", unfollowed := true, recurses := true, apart := false }
def RanksSortSaid : Prop := ranksSortRow.holds Try.pinned (OpenSpec.ofChange ranksSortSpec)

/-- ITS FALSE NEIGHBOUR: 'it returns false'. Refute it at one input. -/
def ranksSortWrong : ChangeSpec := { name := "ranksSort", fn := fun _ => fun
  | [d] => { results := [.lit (.bool false)], args := [d] }
  | _ => none }
def RanksSortWrongFalsely : Prop := ranksSortRow.holds Try.pinned (OpenSpec.ofChange ranksSortWrong)

/-- 'spinneylaw5.RanksTwice': WHATEVER THE INPUT: true; the input reads as it did. -/
def ranksTwiceSpec : ChangeSpec := { name := "ranksTwice", fn := fun _ => fun
  | [d] => { results := [.lit (.bool true)], args := [d] }
  | _ => none }
def ranksTwiceRow : OpenClaim := { program := "ytkdegjjenbbjfaa", sum := "22b4b1ecda74e688fd24f83a12e3b348bbe7d024494a7a00592c503f48b76407", func := "spinney/spinneylaw5.RanksTwice", spec := "ranksTwice", unfollowed := true, recurses := true, apart := false }
def RanksTwiceSaid : Prop := ranksTwiceRow.holds Try.pinned (OpenSpec.ofChange ranksTwiceSpec)

/-- ITS FALSE NEIGHBOUR: 'it returns false'. Refute it at one input. -/
def ranksTwiceWrong : ChangeSpec := { name := "ranksTwice", fn := fun _ => fun
  | [d] => { results := [.lit (.bool false)], args := [d] }
  | _ => none }
def RanksTwiceWrongFalsely : Prop := ranksTwiceRow.holds Try.pinned (OpenSpec.ofChange ranksTwiceWrong)

/-- 'spinneylaw5.RanksChange': WHATEVER THE INPUT: true; the input reads as it did. -/
def ranksChangeSpec : ChangeSpec := { name := "ranksChange", fn := fun _ => fun
  | [d1, d2, d3, d4] => { results := [.lit (.bool true)], args := [d1, d2, d3, d4] }
  | _ => none }
def ranksChangeRow : OpenClaim := { program := "ytkdegjjenbbjfaa", sum := "22b4b1ecda74e688fd24f83a12e3b348bbe7d024494a7a00592c503f48b76407", func := "spinney/spinneylaw5.RanksChange", spec := "ranksChange", unfollowed := true, recurses := true, apart := false }
def RanksChangeSaid : Prop := ranksChangeRow.holds Try.pinned (OpenSpec.ofChange ranksChangeSpec)

/-- ITS FALSE NEIGHBOUR: 'it returns false'. Refute it at one input. -/
def ranksChangeWrong : ChangeSpec := { name := "ranksChange", fn := fun _ => fun
  | [d1, d2, d3, d4] => { results := [.lit (.bool false)], args := [d1, d2, d3, d4] }
  | _ => none }
def RanksChangeWrongFalsely : Prop := ranksChangeRow.holds Try.pinned (OpenSpec.ofChange ranksChangeWrong)

/-- 'spinneylaw5.RanksPlay': WHATEVER THE INPUT: true; the input reads as it did. -/
def ranksPlaySpec : ChangeSpec := { name := "ranksPlay", fn := fun _ => fun
  | [d] => { results := [.lit (.bool true)], args := [d] }
  | _ => none }
def ranksPlayRow : OpenClaim := { program := "ytkdegjjenbbjfaa", sum := "22b4b1ecda74e688fd24f83a12e3b348bbe7d024494a7a00592c503f48b76407", func := "spinney/spinneylaw5.RanksPlay", spec := "ranksPlay", unfollowed := true, recurses := true, apart := false }
def RanksPlaySaid : Prop := ranksPlayRow.holds Try.pinned (OpenSpec.ofChange ranksPlaySpec)

/-- ITS FALSE NEIGHBOUR: 'it returns false'. Refute it at one input. -/
def ranksPlayWrong : ChangeSpec := { name := "ranksPlay", fn := fun _ => fun
  | [d] => { results := [.lit (.bool false)], args := [d] }
  | _ => none }
def RanksPlayWrongFalsely : Prop := ranksPlayRow.holds Try.pinned (OpenSpec.ofChange ranksPlayWrong)

/- THE SECOND FORM. 'bulk': how many values and letters a reading holds, each counted each time it is reached (what is shared counts as often as it is met; a slice's spare places count too). A statement '..UptoSaid' is the law's where the arguments, and the package variables that the reading takes, are together of bulk at most 1048576: NARROWER than '..Said'. Prove '..Said' where nothing that the law and all that it calls make is longer than what came in: it says more and counts as full. Else prove '..UptoSaid'. A law counts once. -/
mutual
def uptoBulk {H : Type} : DataW H → Nat
  | .lit (.string bytes) => bytes.length + 1
  | .lit _ => 1
  | .nil => 1
  | .ptr d => uptoBulk d + 1
  | .slice elems spare => uptoBulkAll elems + uptoBulkAll spare + 1
  | .agg parts => uptoBulkAll parts + 1
  | .iface _ d => uptoBulk d + 1
  | .map entries => uptoBulkEntries entries + 1
  | .held _ => 1
def uptoBulkAll {H : Type} : List (DataW H) → Nat
  | [] => 0
  | d :: r => uptoBulk d + uptoBulkAll r
def uptoBulkEntries {H : Type} : List (Lit × DataW H) → Nat
  | [] => 0
  | x :: r => uptoBulkEntry x + uptoBulkEntries r
def uptoBulkEntry {H : Type} : Lit × DataW H → Nat
  | (.string bytes, d) => bytes.length + uptoBulk d + 1
  | (_, d) => uptoBulk d + 1
 end
def uptoSmall : (H : Type) → List (DataW H) → Bool := fun _ ds => decide (uptoBulkAll ds ≤ 1048576)
def OpenSpec.upto (s : _root_.Go.ChangeSpec) : _root_.Go.OpenSpec := { _root_.Go.OpenSpec.ofChange s with cond := some uptoSmall }

/-- 'spinneylaw2.MemAdds', WHERE WHAT IT READS IS OF BULK AT MOST 1048576: true; the input reads as it did. -/
def memAddsUptoRow : OpenClaim := { program := "ytkdegjjenbbjfaa", sum := "22b4b1ecda74e688fd24f83a12e3b348bbe7d024494a7a00592c503f48b76407", func := "spinney/spinneylaw2.MemAdds", spec := "memAdds", inPlace := ["sync/atomic.AddInt64", "sync/atomic.CompareAndSwapUint64", "sync/atomic.LoadUint64", "sync/atomic.AddUint64", "sync/atomic.LoadInt64"], unfollowed := true, recurses := true, apart := false, narrowed := true }
def MemAddsUptoSaid : Prop := memAddsUptoRow.holds Try.pinned (OpenSpec.upto memAddsSpec)

/-- 'spinneylaw2.MemSums', WHERE WHAT IT READS IS OF BULK AT MOST 1048576: true; the input reads as it did. -/
def memSumsUptoRow : OpenClaim := { program := "ytkdegjjenbbjfaa", sum := "22b4b1ecda74e688fd24f83a12e3b348bbe7d024494a7a00592c503f48b76407", func := "spinney/spinneylaw2.MemSums", spec := "memSums", inPlace := ["sync/atomic.AddInt64", "sync/atomic.CompareAndSwapUint64", "sync/atomic.LoadUint64", "sync/atomic.AddUint64", "sync/atomic.LoadInt64"], unfollowed := true, recurses := true, apart := false, narrowed := true }
def MemSumsUptoSaid : Prop := memSumsUptoRow.holds Try.pinned (OpenSpec.upto memSumsSpec)

/-- 'spinneylaw4.OrderSwaps', WHERE WHAT IT READS IS OF BULK AT MOST 1048576: true; the input reads as it did. -/
def orderSwapsUptoRow : OpenClaim := { program := "ytkdegjjenbbjfaa", sum := "22b4b1ecda74e688fd24f83a12e3b348bbe7d024494a7a00592c503f48b76407", func := "spinney/spinneylaw4.OrderSwaps", spec := "orderSwaps", apart := false, narrowed := true }
def OrderSwapsUptoSaid : Prop := orderSwapsUptoRow.holds Try.pinned (OpenSpec.upto orderSwapsSpec)

/-- 'spinneylaw2.MemPlays', WHERE WHAT IT READS IS OF BULK AT MOST 1048576: true; the input reads as it did. -/
def memPlaysUptoRow : OpenClaim := { program := "ytkdegjjenbbjfaa", sum := "22b4b1ecda74e688fd24f83a12e3b348bbe7d024494a7a00592c503f48b76407", func := "spinney/spinneylaw2.MemPlays", spec := "memPlays", inPlace := ["sync/atomic.AddInt64", "sync/atomic.CompareAndSwapUint64", "sync/atomic.LoadUint64", "sync/atomic.AddUint64", "sync/atomic.LoadInt64", "sync/atomic.StoreUint64"], unfollowed := true, recurses := true, apart := false, narrowed := true }
def MemPlaysUptoSaid : Prop := memPlaysUptoRow.holds Try.pinned (OpenSpec.upto memPlaysSpec)

/-- 'spinneylaw2.MemLocks', WHERE WHAT IT READS IS OF BULK AT MOST 1048576: true; the input reads as it did. -/
def memLocksUptoRow : OpenClaim := { program := "ytkdegjjenbbjfaa", sum := "22b4b1ecda74e688fd24f83a12e3b348bbe7d024494a7a00592c503f48b76407", func := "spinney/spinneylaw2.MemLocks", spec := "memLocks", inPlace := ["sync/atomic.AddInt64", "sync/atomic.CompareAndSwapUint64", "sync/atomic.LoadUint64", "sync/atomic.AddUint64", "sync/atomic.LoadInt64", "sync/atomic.StoreUint64"], unfollowed := true, recurses := true, apart := false, narrowed := true }
def MemLocksUptoSaid : Prop := memLocksUptoRow.holds Try.pinned (OpenSpec.upto memLocksSpec)

/-- 'spinneylaw2.MemBounds', WHERE WHAT IT READS IS OF BULK AT MOST 1048576: true; the input reads as it did. -/
def memBoundsUptoRow : OpenClaim := { program := "ytkdegjjenbbjfaa", sum := "22b4b1ecda74e688fd24f83a12e3b348bbe7d024494a7a00592c503f48b76407", func := "spinney/spinneylaw2.MemBounds", spec := "memBounds", inPlace := ["sync/atomic.AddInt64", "sync/atomic.CompareAndSwapUint64", "sync/atomic.LoadUint64", "sync/atomic.AddUint64", "sync/atomic.LoadInt64", "sync/atomic.StoreUint64"], unfollowed := true, recurses := true, apart := false, narrowed := true }
def MemBoundsUptoSaid : Prop := memBoundsUptoRow.holds Try.pinned (OpenSpec.upto memBoundsSpec)

/-- 'spinneylaw5.RanksSort', WHERE WHAT IT READS IS OF BULK AT MOST 1048576: true; the input reads as it did. -/
def ranksSortUptoRow : OpenClaim := { program := "ytkdegjjenbbjfaa", sum := "22b4b1ecda74e688fd24f83a12e3b348bbe7d024494a7a00592c503f48b76407", func := "spinney/spinneylaw5.RanksSort", spec := "ranksSort", unfollowed := true, recurses := true, apart := false, narrowed := true }
def RanksSortUptoSaid : Prop := ranksSortUptoRow.holds Try.pinned (OpenSpec.upto ranksSortSpec)

/-- 'spinneylaw5.RanksTwice', WHERE WHAT IT READS IS OF BULK AT MOST 1048576: true; the input reads as it did. -/
def ranksTwiceUptoRow : OpenClaim := { program := "ytkdegjjenbbjfaa", sum := "22b4b1ecda74e688fd24f83a12e3b348bbe7d024494a7a00592c503f48b76407", func := "spinney/spinneylaw5.RanksTwice", spec := "ranksTwice", unfollowed := true, recurses := true, apart := false, narrowed := true }
def RanksTwiceUptoSaid : Prop := ranksTwiceUptoRow.holds Try.pinned (OpenSpec.upto ranksTwiceSpec)

/-- 'spinneylaw5.RanksChange', WHERE WHAT IT READS IS OF BULK AT MOST 1048576: true; the input reads as it did. -/
def ranksChangeUptoRow : OpenClaim := { program := "ytkdegjjenbbjfaa", sum := "22b4b1ecda74e688fd24f83a12e3b348bbe7d024494a7a00592c503f48b76407", func := "spinney/spinneylaw5.RanksChange", spec := "ranksChange", unfollowed := true, recurses := true, apart := false, narrowed := true }
def RanksChangeUptoSaid : Prop := ranksChangeUptoRow.holds Try.pinned (OpenSpec.upto ranksChangeSpec)

/-- 'spinneylaw5.RanksPlay', WHERE WHAT IT READS IS OF BULK AT MOST 1048576: true; the input reads as it did. -/
def ranksPlayUptoRow : OpenClaim := { program := "ytkdegjjenbbjfaa", sum := "22b4b1ecda74e688fd24f83a12e3b348bbe7d024494a7a00592c503f48b76407", func := "spinney/spinneylaw5.RanksPlay", spec := "ranksPlay", unfollowed := true, recurses := true, apart := false, narrowed := true }
def RanksPlayUptoSaid : Prop := ranksPlayUptoRow.holds Try.pinned (OpenSpec.upto ranksPlaySpec)

end Rows
end Go.Proofs.Ytkdegjjenbbjfaa
