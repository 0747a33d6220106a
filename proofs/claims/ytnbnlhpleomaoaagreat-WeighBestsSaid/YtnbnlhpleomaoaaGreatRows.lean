/-
  No cell of these rows narrows 'for every input' (looked for: loops, veiled, ifaces, maps, wideKeys, modest, calm, conditions, laid).
  DERIVED. THE GIVEN ROWS OF THIS SEAT. 7 by the template 'for every input the law returns true; each argument reads behind the call as it read before'; 0 by the template 'total and deterministic' (their statements: YtnbnlhpleomaoaaGreatTotals.lean).
  GIVEN WITH THE SEED: the statements are not yours to turn. If you find one false, say at which input.
  Laid BY PROGRAM, IN A SANDBOX (cutbox-rows.mjs): the forced cells as the released guide's own fill.sh prints them over the translation 2eda859c3134c656… (all of the seat's roots in one cut). By AI agents, Wed Nov 11 2026. No macro, syntax, notation, axiom, sorry.
-/
import Derived.Test.YtnbnlhpleomaoaaGreatChecked
import GoSem.Claim
import GoSem.ClaimJoined
import GoSem.ClaimMapViews
import Derived.JoinedTies
import Derived.KernelRfl
namespace Go.Proofs.YtnbnlhpleomaoaaGreat
/- THE CELL 'sum', in the pinned program and in every row, IS THE sha256 OF THE DUMP (.gsa) THAT YtnbnlhpleomaoaaGreatProg.lean LOADS. Nothing in Lean hashes anything: it is a label: what it is worth is what the hold of that sum in a sandbox is worth. -/
noncomputable def Tryz.pinned : Pinned := { name := "ytnbnlhpleomaoaagreat", sum := "2eda859c3134c656ca320fd15d4315d17ab21713cb7c487d09f71cd2b511ed4a", checked := Tryz.checked }
namespace Rows
def none {H : Type} : Left H := { results := [], args := [] }

/-- 'spinneylaw30.WeighTells': WHATEVER THE INPUT: true; the input reads as it did. -/
def weighTellsSpec : ChangeSpec := { name := "weighTells", fn := fun _ => fun
  | [d1, d2, d3, d4, d5] => { results := [.lit (.bool true)], args := [d1, d2, d3, d4, d5] }
  | _ => none }
def weighTellsRow : OpenClaim := { program := "ytnbnlhpleomaoaagreat", sum := "2eda859c3134c656ca320fd15d4315d17ab21713cb7c487d09f71cd2b511ed4a", func := "spinney/spinneylaw30.WeighTells", spec := "weighTells", inPlace := ["sync/atomic.AddInt64", "sync/atomic.LoadUint64", "sync/atomic.CompareAndSwapUint64"], unfollowed := true, recurses := true, apart := false }
def WeighTellsSaid : Prop := weighTellsRow.holds Tryz.pinned (OpenSpec.ofChange weighTellsSpec)

/-- ITS FALSE NEIGHBOUR: 'it returns false'. Refute it at one input. -/
def weighTellsWrong : ChangeSpec := { name := "weighTells", fn := fun _ => fun
  | [d1, d2, d3, d4, d5] => { results := [.lit (.bool false)], args := [d1, d2, d3, d4, d5] }
  | _ => none }
def WeighTellsWrongFalsely : Prop := weighTellsRow.holds Tryz.pinned (OpenSpec.ofChange weighTellsWrong)

/-- 'spinneylaw30.WeighRanks': WHATEVER THE INPUT: true; the input reads as it did. -/
def weighRanksSpec : ChangeSpec := { name := "weighRanks", fn := fun _ => fun
  | [d1, d2] => { results := [.lit (.bool true)], args := [d1, d2] }
  | _ => none }
def weighRanksRow : OpenClaim := { program := "ytnbnlhpleomaoaagreat", sum := "2eda859c3134c656ca320fd15d4315d17ab21713cb7c487d09f71cd2b511ed4a", func := "spinney/spinneylaw30.WeighRanks", spec := "weighRanks", inPlace := ["sync/atomic.AddInt64", "sync/atomic.LoadUint64", "sync/atomic.CompareAndSwapUint64"], unfollowed := true, recurses := true, apart := false }
def WeighRanksSaid : Prop := weighRanksRow.holds Tryz.pinned (OpenSpec.ofChange weighRanksSpec)

/-- ITS FALSE NEIGHBOUR: 'it returns false'. Refute it at one input. -/
def weighRanksWrong : ChangeSpec := { name := "weighRanks", fn := fun _ => fun
  | [d1, d2] => { results := [.lit (.bool false)], args := [d1, d2] }
  | _ => none }
def WeighRanksWrongFalsely : Prop := weighRanksRow.holds Tryz.pinned (OpenSpec.ofChange weighRanksWrong)

/-- 'spinneylaw30.WeighRaw': WHATEVER THE INPUT: true; the input reads as it did. -/
def weighRawSpec : ChangeSpec := { name := "weighRaw", fn := fun _ => fun
  | [d1, d2, d3, d4] => { results := [.lit (.bool true)], args := [d1, d2, d3, d4] }
  | _ => none }
def weighRawRow : OpenClaim := { program := "ytnbnlhpleomaoaagreat", sum := "2eda859c3134c656ca320fd15d4315d17ab21713cb7c487d09f71cd2b511ed4a", func := "spinney/spinneylaw30.WeighRaw", spec := "weighRaw", inPlace := ["sync/atomic.AddInt64", "sync/atomic.LoadUint64", "sync/atomic.CompareAndSwapUint64"], unfollowed := true, recurses := true, apart := false }
def WeighRawSaid : Prop := weighRawRow.holds Tryz.pinned (OpenSpec.ofChange weighRawSpec)

/-- ITS FALSE NEIGHBOUR: 'it returns false'. Refute it at one input. -/
def weighRawWrong : ChangeSpec := { name := "weighRaw", fn := fun _ => fun
  | [d1, d2, d3, d4] => { results := [.lit (.bool false)], args := [d1, d2, d3, d4] }
  | _ => none }
def WeighRawWrongFalsely : Prop := weighRawRow.holds Tryz.pinned (OpenSpec.ofChange weighRawWrong)

/-- 'spinneylaw30.WeighSamples': WHATEVER THE INPUT: true; the input reads as it did. -/
def weighSamplesSpec : ChangeSpec := { name := "weighSamples", fn := fun _ => fun
  | [d1, d2] => { results := [.lit (.bool true)], args := [d1, d2] }
  | _ => none }
def weighSamplesRow : OpenClaim := { program := "ytnbnlhpleomaoaagreat", sum := "2eda859c3134c656ca320fd15d4315d17ab21713cb7c487d09f71cd2b511ed4a", func := "spinney/spinneylaw30.WeighSamples", spec := "weighSamples", inPlace := ["sync/atomic.AddInt64", "sync/atomic.LoadUint64", "sync/atomic.CompareAndSwapUint64"], unfollowed := true, recurses := true, apart := false }
def WeighSamplesSaid : Prop := weighSamplesRow.holds Tryz.pinned (OpenSpec.ofChange weighSamplesSpec)

/-- ITS FALSE NEIGHBOUR: 'it returns false'. Refute it at one input. -/
def weighSamplesWrong : ChangeSpec := { name := "weighSamples", fn := fun _ => fun
  | [d1, d2] => { results := [.lit (.bool false)], args := [d1, d2] }
  | _ => none }
def WeighSamplesWrongFalsely : Prop := weighSamplesRow.holds Tryz.pinned (OpenSpec.ofChange weighSamplesWrong)

/-- 'spinneylaw30.WeighAll': WHATEVER THE INPUT: true; the input reads as it did. -/
def weighAllSpec : ChangeSpec := { name := "weighAll", fn := fun _ => fun
  | [d1, d2] => { results := [.lit (.bool true)], args := [d1, d2] }
  | _ => none }
def weighAllRow : OpenClaim := { program := "ytnbnlhpleomaoaagreat", sum := "2eda859c3134c656ca320fd15d4315d17ab21713cb7c487d09f71cd2b511ed4a", func := "spinney/spinneylaw30.WeighAll", spec := "weighAll", inPlace := ["sync/atomic.AddInt64", "sync/atomic.LoadUint64", "sync/atomic.CompareAndSwapUint64"], unfollowed := true, recurses := true, apart := false }
def WeighAllSaid : Prop := weighAllRow.holds Tryz.pinned (OpenSpec.ofChange weighAllSpec)

/-- ITS FALSE NEIGHBOUR: 'it returns false'. Refute it at one input. -/
def weighAllWrong : ChangeSpec := { name := "weighAll", fn := fun _ => fun
  | [d1, d2] => { results := [.lit (.bool false)], args := [d1, d2] }
  | _ => none }
def WeighAllWrongFalsely : Prop := weighAllRow.holds Tryz.pinned (OpenSpec.ofChange weighAllWrong)

/-- 'spinneylaw30.WeighSums': WHATEVER THE INPUT: true; the input reads as it did. -/
def weighSumsSpec : ChangeSpec := { name := "weighSums", fn := fun _ => fun
  | [d1, d2] => { results := [.lit (.bool true)], args := [d1, d2] }
  | _ => none }
def weighSumsRow : OpenClaim := { program := "ytnbnlhpleomaoaagreat", sum := "2eda859c3134c656ca320fd15d4315d17ab21713cb7c487d09f71cd2b511ed4a", func := "spinney/spinneylaw30.WeighSums", spec := "weighSums", inPlace := ["sync/atomic.AddInt64", "sync/atomic.LoadUint64", "sync/atomic.CompareAndSwapUint64", "sync/atomic.StoreUint64"], unfollowed := true, recurses := true, apart := false }
def WeighSumsSaid : Prop := weighSumsRow.holds Tryz.pinned (OpenSpec.ofChange weighSumsSpec)

/-- ITS FALSE NEIGHBOUR: 'it returns false'. Refute it at one input. -/
def weighSumsWrong : ChangeSpec := { name := "weighSums", fn := fun _ => fun
  | [d1, d2] => { results := [.lit (.bool false)], args := [d1, d2] }
  | _ => none }
def WeighSumsWrongFalsely : Prop := weighSumsRow.holds Tryz.pinned (OpenSpec.ofChange weighSumsWrong)

/-- 'spinneylaw30.WeighBests': WHATEVER THE INPUT: true; the input reads as it did. -/
def weighBestsSpec : ChangeSpec := { name := "weighBests", fn := fun _ => fun
  | [d1, d2, d3] => { results := [.lit (.bool true)], args := [d1, d2, d3] }
  | _ => none }
def weighBestsRow : OpenClaim := { program := "ytnbnlhpleomaoaagreat", sum := "2eda859c3134c656ca320fd15d4315d17ab21713cb7c487d09f71cd2b511ed4a", func := "spinney/spinneylaw30.WeighBests", spec := "weighBests", inPlace := ["sync/atomic.AddInt64", "sync/atomic.LoadUint64", "sync/atomic.CompareAndSwapUint64", "sync/atomic.StoreUint64"], unfollowed := true, recurses := true, apart := false }
def WeighBestsSaid : Prop := weighBestsRow.holds Tryz.pinned (OpenSpec.ofChange weighBestsSpec)

/-- ITS FALSE NEIGHBOUR: 'it returns false'. Refute it at one input. -/
def weighBestsWrong : ChangeSpec := { name := "weighBests", fn := fun _ => fun
  | [d1, d2, d3] => { results := [.lit (.bool false)], args := [d1, d2, d3] }
  | _ => none }
def WeighBestsWrongFalsely : Prop := weighBestsRow.holds Tryz.pinned (OpenSpec.ofChange weighBestsWrong)

/- THE SECOND FORM. 'bulk': how many values and letters a reading holds, each counted each time it is reached (what is shared counts as often as it is met; a slice's spare places count too). A statement '..UptoSaid' is the law's where the arguments, and the package variables that the reading takes, are together of bulk at most 1048576: NARROWER than '..Said'. Prove '..Said' where nothing that the law and all that it calls make is longer than what came in: it says more and counts as full. Else prove '..UptoSaid'. A law counts once. -/
mutual
def uptoBulk {H : Type} : DataW H → Nat
  | .lit (.string bytes) => bytes.length + 1
  | .lit _ => 1
  | .nil => 1
  | .ptr d => uptoBulk d + 1
  | .slice elems spare => uptoBulkAll elems + uptoBulkAll spare + 1
  | .agg parts => uptoBulkAll parts + 1
  | .iface _ d => uptoBulk d + 1
  | .map entries => uptoBulkEntries entries + 1
  | .held _ => 1
def uptoBulkAll {H : Type} : List (DataW H) → Nat
  | [] => 0
  | d :: r => uptoBulk d + uptoBulkAll r
def uptoBulkEntries {H : Type} : List (Lit × DataW H) → Nat
  | [] => 0
  | x :: r => uptoBulkEntry x + uptoBulkEntries r
def uptoBulkEntry {H : Type} : Lit × DataW H → Nat
  | (.string bytes, d) => bytes.length + uptoBulk d + 1
  | (_, d) => uptoBulk d + 1
 end
def uptoSmall : (H : Type) → List (DataW H) → Bool := fun _ ds => decide (uptoBulkAll ds ≤ 1048576)
def OpenSpec.upto (s : _root_.Go.ChangeSpec) : _root_.Go.OpenSpec := { _root_.Go.OpenSpec.ofChange s with cond := some uptoSmall }

/-- 'spinneylaw30.WeighTells', WHERE WHAT IT READS IS OF BULK AT MOST 1048576: true; the input reads as it did. -/
def weighTellsUptoRow : OpenClaim := { program := "ytnbnlhpleomaoaagreat", sum := "2eda859c3134c656ca320fd15d4315d17ab21713cb7c487d09f71cd2b511ed4a", func := "spinney/spinneylaw30.WeighTells", spec := "weighTells", inPlace := ["sync/atomic.AddInt64", "sync/atomic.LoadUint64", "sync/atomic.CompareAndSwapUint64"], unfollowed := true, recurses := true, apart := false, narrowed := true }
def WeighTellsUptoSaid : Prop := weighTellsUptoRow.holds Tryz.pinned (OpenSpec.upto weighTellsSpec)

/-- 'spinneylaw30.WeighRanks', WHERE WHAT IT READS IS OF BULK AT MOST 1048576: true; the input reads as it did. -/
def weighRanksUptoRow : OpenClaim := { program := "ytnbnlhpleomaoaagreat", sum := "2eda859c3134c656ca320fd15d4315d17ab21713cb7c487d09f71cd2b511ed4a", func := "spinney/spinneylaw30.WeighRanks", spec := "weighRanks", inPlace := ["sync/atomic.AddInt64", "sync/atomic.LoadUint64", "sync/atomic.CompareAndSwapUint64"], unfollowed := true, recurses := true, apart := false, narrowed := true }
def WeighRanksUptoSaid : Prop := weighRanksUptoRow.holds Tryz.pinned (OpenSpec.upto weighRanksSpec)

/-- 'spinneylaw30.WeighRaw', WHERE WHAT IT READS IS OF BULK AT MOST 1048576: true; the input reads as it did. -/
def weighRawUptoRow : OpenClaim := { program := "ytnbnlhpleomaoaagreat", sum := "2eda859c3134c656ca320fd15d4315d17ab21713cb7c487d09f71cd2b511ed4a", func := "spinney/spinneylaw30.WeighRaw", spec := "weighRaw", inPlace := ["sync/atomic.AddInt64", "sync/atomic.LoadUint64", "sync/atomic.CompareAndSwapUint64"], unfollowed := true, recurses := true, apart := false, narrowed := true }
def WeighRawUptoSaid : Prop := weighRawUptoRow.holds Tryz.pinned (OpenSpec.upto weighRawSpec)

/-- 'spinneylaw30.WeighSamples', WHERE WHAT IT READS IS OF BULK AT MOST 1048576: true; the input reads as it did. -/
def weighSamplesUptoRow : OpenClaim := { program := "ytnbnlhpleomaoaagreat", sum := "2eda859c3134c656ca320fd15d4315d17ab21713cb7c487d09f71cd2b511ed4a", func := "spinney/spinneylaw30.WeighSamples", spec := "weighSamples", inPlace := ["sync/atomic.AddInt64", "sync/atomic.LoadUint64", "sync/atomic.CompareAndSwapUint64"], unfollowed := true, recurses := true, apart := false, narrowed := true }
def WeighSamplesUptoSaid : Prop := weighSamplesUptoRow.holds Tryz.pinned (OpenSpec.upto weighSamplesSpec)

/-- 'spinneylaw30.WeighAll', WHERE WHAT IT READS IS OF BULK AT MOST 1048576: true; the input reads as it did. -/
def weighAllUptoRow : OpenClaim := { program := "ytnbnlhpleomaoaagreat", sum := "2eda859c3134c656ca320fd15d4315d17ab21713cb7c487d09f71cd2b511ed4a", func := "spinney/spinneylaw30.WeighAll", spec := "weighAll", inPlace := ["sync/atomic.AddInt64", "sync/atomic.LoadUint64", "sync/atomic.CompareAndSwapUint64"], unfollowed := true, recurses := true, apart := false, narrowed := true }
def WeighAllUptoSaid : Prop := weighAllUptoRow.holds Tryz.pinned (OpenSpec.upto weighAllSpec)

/-- 'spinneylaw30.WeighSums', WHERE WHAT IT READS IS OF BULK AT MOST 1048576: true; the input reads as it did. -/
def weighSumsUptoRow : OpenClaim := { program := "ytnbnlhpleomaoaagreat", sum := "2eda859c3134c656ca320fd15d4315d17ab21713cb7c487d09f71cd2b511ed4a", func := "spinney/spinneylaw30.WeighSums", spec := "weighSums", inPlace := ["sync/atomic.AddInt64", "sync/atomic.LoadUint64", "sync/atomic.CompareAndSwapUint64", "sync/atomic.StoreUint64"], unfollowed := true, recurses := true, apart := false, narrowed := true }
def WeighSumsUptoSaid : Prop := weighSumsUptoRow.holds Tryz.pinned (OpenSpec.upto weighSumsSpec)

/-- 'spinneylaw30.WeighBests', WHERE WHAT IT READS IS OF BULK AT MOST 1048576: true; the input reads as it did. -/
def weighBestsUptoRow : OpenClaim := { program := "ytnbnlhpleomaoaagreat", sum := "2eda859c3134c656ca320fd15d4315d17ab21713cb7c487d09f71cd2b511ed4a", func := "spinney/spinneylaw30.WeighBests", spec := "weighBests", inPlace := ["sync/atomic.AddInt64", "sync/atomic.LoadUint64", "sync/atomic.CompareAndSwapUint64", "sync/atomic.StoreUint64"], unfollowed := true, recurses := true, apart := false, narrowed := true }
def WeighBestsUptoSaid : Prop := weighBestsUptoRow.holds Tryz.pinned (OpenSpec.upto weighBestsSpec)

end Rows
end Go.Proofs.YtnbnlhpleomaoaaGreat
