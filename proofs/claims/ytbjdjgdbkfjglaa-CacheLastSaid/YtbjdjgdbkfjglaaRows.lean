/-
  No cell of these rows narrows 'for every input' (looked for: loops, veiled, ifaces, maps, wideKeys, modest, calm, conditions, laid).
  DERIVED. THE GIVEN ROWS OF THIS SEAT. 8 by the template 'for every input the law returns true; each argument reads behind the call as it read before'; 0 by the template 'total and deterministic' (their statements: YtbjdjgdbkfjglaaTotals.lean).
  GIVEN WITH THE SEED: the statements are not yours to turn. If you find one false, say at which input.
  Laid BY PROGRAM, IN A SANDBOX (cutbox-rows.mjs): the forced cells as the released guide's own fill.sh prints them over the translation 2d6567a5503321cf… (all of the seat's roots in one cut). By AI agents, Wed Nov 11 2026. No macro, syntax, notation, axiom, sorry.
-/
import Derived.Test.YtbjdjgdbkfjglaaChecked
import GoSem.Claim
import GoSem.ClaimJoined
import GoSem.ClaimMapViews
import Derived.JoinedTies
import Derived.KernelRfl
namespace Go.Proofs.Ytbjdjgdbkfjglaa
/- THE CELL 'sum', in the pinned program and in every row, IS THE sha256 OF THE DUMP (.gsa) THAT YtbjdjgdbkfjglaaProg.lean LOADS. Nothing in Lean hashes anything: it is a label: what it is worth is what the hold of that sum in a sandbox is worth. -/
noncomputable def Try.pinned : Pinned := { name := "ytbjdjgdbkfjglaa", sum := "2d6567a5503321cfcbaaa6a3a28e58ae70efe24d832c456c74964a7b4c064cea", checked := Try.checked }
namespace Rows
def none {H : Type} : Left H := { results := [], args := [] }

/-- 'spinneylaw6.TableAlone': WHATEVER THE INPUT: true; the input reads as it did. -/
def tableAloneSpec : ChangeSpec := { name := "tableAlone", fn := fun _ => fun
  | [d1, d2, d3] => { results := [.lit (.bool true)], args := [d1, d2, d3] }
  | _ => none }
def tableAloneRow : OpenClaim := { program := "ytbjdjgdbkfjglaa", sum := "2d6567a5503321cfcbaaa6a3a28e58ae70efe24d832c456c74964a7b4c064cea", func := "spinney/spinneylaw6.TableAlone", spec := "tableAlone", inPlace := ["sync/atomic.AddInt64", "sync/atomic.LoadUint64", "sync/atomic.CompareAndSwapUint64"], unfollowed := true, recurses := true, apart := false }
def TableAloneSaid : Prop := tableAloneRow.holds Try.pinned (OpenSpec.ofChange tableAloneSpec)

/-- ITS FALSE NEIGHBOUR: 'it returns false'. Refute it at one input. -/
def tableAloneWrong : ChangeSpec := { name := "tableAlone", fn := fun _ => fun
  | [d1, d2, d3] => { results := [.lit (.bool false)], args := [d1, d2, d3] }
  | _ => none }
def TableAloneWrongFalsely : Prop := tableAloneRow.holds Try.pinned (OpenSpec.ofChange tableAloneWrong)

/-- 'spinneylaw6.TableEach': WHATEVER THE INPUT: true; the input reads as it did. -/
def tableEachSpec : ChangeSpec := { name := "tableEach", fn := fun _ => fun
  | [d1, d2] => { results := [.lit (.bool true)], args := [d1, d2] }
  | _ => none }
def tableEachRow : OpenClaim := { program := "ytbjdjgdbkfjglaa", sum := "2d6567a5503321cfcbaaa6a3a28e58ae70efe24d832c456c74964a7b4c064cea", func := "spinney/spinneylaw6.TableEach", spec := "tableEach", inPlace := ["sync/atomic.AddInt64", "sync/atomic.LoadUint64", "sync/atomic.CompareAndSwapUint64"], unfollowed := true, recurses := true, apart := false }
def TableEachSaid : Prop := tableEachRow.holds Try.pinned (OpenSpec.ofChange tableEachSpec)

/-- ITS FALSE NEIGHBOUR: 'it returns false'. Refute it at one input. -/
def tableEachWrong : ChangeSpec := { name := "tableEach", fn := fun _ => fun
  | [d1, d2] => { results := [.lit (.bool false)], args := [d1, d2] }
  | _ => none }
def TableEachWrongFalsely : Prop := tableEachRow.holds Try.pinned (OpenSpec.ofChange tableEachWrong)

/-- 'spinneylaw6.TableBases': WHATEVER THE INPUT: true; the input reads as it did. -/
def tableBasesSpec : ChangeSpec := { name := "tableBases", fn := fun _ => fun
  | [d1, d2] => { results := [.lit (.bool true)], args := [d1, d2] }
  | _ => none }
def tableBasesRow : OpenClaim := { program := "ytbjdjgdbkfjglaa", sum := "2d6567a5503321cfcbaaa6a3a28e58ae70efe24d832c456c74964a7b4c064cea", func := "spinney/spinneylaw6.TableBases", spec := "tableBases", inPlace := ["sync/atomic.AddInt64", "sync/atomic.LoadUint64", "sync/atomic.CompareAndSwapUint64", "sync/atomic.StoreUint64"], unfollowed := true, recurses := true, apart := false }
def TableBasesSaid : Prop := tableBasesRow.holds Try.pinned (OpenSpec.ofChange tableBasesSpec)

/-- ITS FALSE NEIGHBOUR: 'it returns false'. Refute it at one input. -/
def tableBasesWrong : ChangeSpec := { name := "tableBases", fn := fun _ => fun
  | [d1, d2] => { results := [.lit (.bool false)], args := [d1, d2] }
  | _ => none }
def TableBasesWrongFalsely : Prop := tableBasesRow.holds Try.pinned (OpenSpec.ofChange tableBasesWrong)

/-- 'spinneylaw6.TableTurns': WHATEVER THE INPUT: true; the input reads as it did. -/
def tableTurnsSpec : ChangeSpec := { name := "tableTurns", fn := fun _ => fun
  | [d1, d2, d3, d4] => { results := [.lit (.bool true)], args := [d1, d2, d3, d4] }
  | _ => none }
def tableTurnsRow : OpenClaim := { program := "ytbjdjgdbkfjglaa", sum := "2d6567a5503321cfcbaaa6a3a28e58ae70efe24d832c456c74964a7b4c064cea", func := "spinney/spinneylaw6.TableTurns", spec := "tableTurns", inPlace := ["sync/atomic.AddInt64", "sync/atomic.LoadUint64", "sync/atomic.CompareAndSwapUint64", "sync/atomic.LoadInt64"], unfollowed := true, recurses := true, apart := false }
def TableTurnsSaid : Prop := tableTurnsRow.holds Try.pinned (OpenSpec.ofChange tableTurnsSpec)

/-- ITS FALSE NEIGHBOUR: 'it returns false'. Refute it at one input. -/
def tableTurnsWrong : ChangeSpec := { name := "tableTurns", fn := fun _ => fun
  | [d1, d2, d3, d4] => { results := [.lit (.bool false)], args := [d1, d2, d3, d4] }
  | _ => none }
def TableTurnsWrongFalsely : Prop := tableTurnsRow.holds Try.pinned (OpenSpec.ofChange tableTurnsWrong)

/-- 'spinneylaw6.TablePlays': WHATEVER THE INPUT: true; the input reads as it did. -/
def tablePlaysSpec : ChangeSpec := { name := "tablePlays", fn := fun _ => fun
  | [d1, d2] => { results := [.lit (.bool true)], args := [d1, d2] }
  | _ => none }
def tablePlaysRow : OpenClaim := { program := "ytbjdjgdbkfjglaa", sum := "2d6567a5503321cfcbaaa6a3a28e58ae70efe24d832c456c74964a7b4c064cea", func := "spinney/spinneylaw6.TablePlays", spec := "tablePlays", inPlace := ["sync/atomic.AddInt64", "sync/atomic.LoadUint64", "sync/atomic.CompareAndSwapUint64", "sync/atomic.StoreUint64"], unfollowed := true, recurses := true, apart := false }
def TablePlaysSaid : Prop := tablePlaysRow.holds Try.pinned (OpenSpec.ofChange tablePlaysSpec)

/-- ITS FALSE NEIGHBOUR: 'it returns false'. Refute it at one input. -/
def tablePlaysWrong : ChangeSpec := { name := "tablePlays", fn := fun _ => fun
  | [d1, d2] => { results := [.lit (.bool false)], args := [d1, d2] }
  | _ => none }
def TablePlaysWrongFalsely : Prop := tablePlaysRow.holds Try.pinned (OpenSpec.ofChange tablePlaysWrong)

/-- 'spinneylaw7.CacheLast': WHATEVER THE INPUT: true; the input reads as it did. -/
def cacheLastSpec : ChangeSpec := { name := "cacheLast", fn := fun _ => fun
  | [d1, d2] => { results := [.lit (.bool true)], args := [d1, d2] }
  | _ => none }
def cacheLastRow : OpenClaim := { program := "ytbjdjgdbkfjglaa", sum := "2d6567a5503321cfcbaaa6a3a28e58ae70efe24d832c456c74964a7b4c064cea", func := "spinney/spinneylaw7.CacheLast", spec := "cacheLast", inPlace := ["sync/atomic.AddInt64", "sync/atomic.LoadUint64", "sync/atomic.StoreUint64", "sync/atomic.CompareAndSwapUint64"], unfollowed := true, recurses := true, apart := false }
def CacheLastSaid : Prop := cacheLastRow.holds Try.pinned (OpenSpec.ofChange cacheLastSpec)

/-- ITS FALSE NEIGHBOUR: 'it returns false'. Refute it at one input. -/
def cacheLastWrong : ChangeSpec := { name := "cacheLast", fn := fun _ => fun
  | [d1, d2] => { results := [.lit (.bool false)], args := [d1, d2] }
  | _ => none }
def CacheLastWrongFalsely : Prop := cacheLastRow.holds Try.pinned (OpenSpec.ofChange cacheLastWrong)

/-- 'spinneylaw7.CacheCells': WHATEVER THE INPUT: true; the input reads as it did. -/
def cacheCellsSpec : ChangeSpec := { name := "cacheCells", fn := fun _ => fun
  | [d1, d2] => { results := [.lit (.bool true)], args := [d1, d2] }
  | _ => none }
def cacheCellsRow : OpenClaim := { program := "ytbjdjgdbkfjglaa", sum := "2d6567a5503321cfcbaaa6a3a28e58ae70efe24d832c456c74964a7b4c064cea", func := "spinney/spinneylaw7.CacheCells", spec := "cacheCells", inPlace := ["sync/atomic.AddInt64", "sync/atomic.LoadUint64", "sync/atomic.StoreUint64", "sync/atomic.CompareAndSwapUint64"], unfollowed := true, recurses := true, apart := false }
def CacheCellsSaid : Prop := cacheCellsRow.holds Try.pinned (OpenSpec.ofChange cacheCellsSpec)

/-- ITS FALSE NEIGHBOUR: 'it returns false'. Refute it at one input. -/
def cacheCellsWrong : ChangeSpec := { name := "cacheCells", fn := fun _ => fun
  | [d1, d2] => { results := [.lit (.bool false)], args := [d1, d2] }
  | _ => none }
def CacheCellsWrongFalsely : Prop := cacheCellsRow.holds Try.pinned (OpenSpec.ofChange cacheCellsWrong)

/-- 'spinneylaw7.CacheLeft': WHATEVER THE INPUT: true; the input reads as it did. -/
def cacheLeftSpec : ChangeSpec := { name := "cacheLeft", fn := fun _ => fun
  | [d1, d2, d3] => { results := [.lit (.bool true)], args := [d1, d2, d3] }
  | _ => none }
def cacheLeftRow : OpenClaim := { program := "ytbjdjgdbkfjglaa", sum := "2d6567a5503321cfcbaaa6a3a28e58ae70efe24d832c456c74964a7b4c064cea", func := "spinney/spinneylaw7.CacheLeft", spec := "cacheLeft", inPlace := ["sync/atomic.AddInt64", "sync/atomic.LoadUint64", "sync/atomic.StoreUint64", "sync/atomic.CompareAndSwapUint64"], unfollowed := true, recurses := true, apart := false }
def CacheLeftSaid : Prop := cacheLeftRow.holds Try.pinned (OpenSpec.ofChange cacheLeftSpec)

/-- ITS FALSE NEIGHBOUR: 'it returns false'. Refute it at one input. -/
def cacheLeftWrong : ChangeSpec := { name := "cacheLeft", fn := fun _ => fun
  | [d1, d2, d3] => { results := [.lit (.bool false)], args := [d1, d2, d3] }
  | _ => none }
def CacheLeftWrongFalsely : Prop := cacheLeftRow.holds Try.pinned (OpenSpec.ofChange cacheLeftWrong)

/- THE SECOND FORM. 'bulk': how many values and letters a reading holds, each counted each time it is reached (what is shared counts as often as it is met; a slice's spare places count too). A statement '..UptoSaid' is the law's where the arguments, and the package variables that the reading takes, are together of bulk at most 1048576: NARROWER than '..Said'. Prove '..Said' where nothing that the law and all that it calls make is longer than what came in: it says more and counts as full. Else prove '..UptoSaid'. A law counts once. -/
mutual
def uptoBulk {H : Type} : DataW H → Nat
  | .lit (.string bytes) => bytes.length + 1
  | .lit _ => 1
  | .nil => 1
  | .ptr d => uptoBulk d + 1
  | .slice elems spare => uptoBulkAll elems + uptoBulkAll spare + 1
  | .agg parts => uptoBulkAll parts + 1
  | .iface _ d => uptoBulk d + 1
  | .map entries => uptoBulkEntries entries + 1
  | .held _ => 1
def uptoBulkAll {H : Type} : List (DataW H) → Nat
  | [] => 0
  | d :: r => uptoBulk d + uptoBulkAll r
def uptoBulkEntries {H : Type} : List (Lit × DataW H) → Nat
  | [] => 0
  | x :: r => uptoBulkEntry x + uptoBulkEntries r
def uptoBulkEntry {H : Type} : Lit × DataW H → Nat
  | (.string bytes, d) => bytes.length + uptoBulk d + 1
  | (_, d) => uptoBulk d + 1
 end
def uptoSmall : (H : Type) → List (DataW H) → Bool := fun _ ds => decide (uptoBulkAll ds ≤ 1048576)
def OpenSpec.upto (s : _root_.Go.ChangeSpec) : _root_.Go.OpenSpec := { _root_.Go.OpenSpec.ofChange s with cond := some uptoSmall }

/-- 'spinneylaw6.TableAlone', WHERE WHAT IT READS IS OF BULK AT MOST 1048576: true; the input reads as it did. -/
def tableAloneUptoRow : OpenClaim := { program := "ytbjdjgdbkfjglaa", sum := "2d6567a5503321cfcbaaa6a3a28e58ae70efe24d832c456c74964a7b4c064cea", func := "spinney/spinneylaw6.TableAlone", spec := "tableAlone", inPlace := ["sync/atomic.AddInt64", "sync/atomic.LoadUint64", "sync/atomic.CompareAndSwapUint64"], unfollowed := true, recurses := true, apart := false, narrowed := true }
def TableAloneUptoSaid : Prop := tableAloneUptoRow.holds Try.pinned (OpenSpec.upto tableAloneSpec)

/-- 'spinneylaw6.TableEach', WHERE WHAT IT READS IS OF BULK AT MOST 1048576: true; the input reads as it did. -/
def tableEachUptoRow : OpenClaim := { program := "ytbjdjgdbkfjglaa", sum := "2d6567a5503321cfcbaaa6a3a28e58ae70efe24d832c456c74964a7b4c064cea", func := "spinney/spinneylaw6.TableEach", spec := "tableEach", inPlace := ["sync/atomic.AddInt64", "sync/atomic.LoadUint64", "sync/atomic.CompareAndSwapUint64"], unfollowed := true, recurses := true, apart := false, narrowed := true }
def TableEachUptoSaid : Prop := tableEachUptoRow.holds Try.pinned (OpenSpec.upto tableEachSpec)

/-- 'spinneylaw6.TableBases', WHERE WHAT IT READS IS OF BULK AT MOST 1048576: true; the input reads as it did. -/
def tableBasesUptoRow : OpenClaim := { program := "ytbjdjgdbkfjglaa", sum := "2d6567a5503321cfcbaaa6a3a28e58ae70efe24d832c456c74964a7b4c064cea", func := "spinney/spinneylaw6.TableBases", spec := "tableBases", inPlace := ["sync/atomic.AddInt64", "sync/atomic.LoadUint64", "sync/atomic.CompareAndSwapUint64", "sync/atomic.StoreUint64"], unfollowed := true, recurses := true, apart := false, narrowed := true }
def TableBasesUptoSaid : Prop := tableBasesUptoRow.holds Try.pinned (OpenSpec.upto tableBasesSpec)

/-- 'spinneylaw6.TableTurns', WHERE WHAT IT READS IS OF BULK AT MOST 1048576: true; the input reads as it did. -/
def tableTurnsUptoRow : OpenClaim := { program := "ytbjdjgdbkfjglaa", sum := "2d6567a5503321cfcbaaa6a3a28e58ae70efe24d832c456c74964a7b4c064cea", func := "spinney/spinneylaw6.TableTurns", spec := "tableTurns", inPlace := ["sync/atomic.AddInt64", "sync/atomic.LoadUint64", "sync/atomic.CompareAndSwapUint64", "sync/atomic.LoadInt64"], unfollowed := true, recurses := true, apart := false, narrowed := true }
def TableTurnsUptoSaid : Prop := tableTurnsUptoRow.holds Try.pinned (OpenSpec.upto tableTurnsSpec)

/-- 'spinneylaw6.TablePlays', WHERE WHAT IT READS IS OF BULK AT MOST 1048576: true; the input reads as it did. -/
def tablePlaysUptoRow : OpenClaim := { program := "ytbjdjgdbkfjglaa", sum := "2d6567a5503321cfcbaaa6a3a28e58ae70efe24d832c456c74964a7b4c064cea", func := "spinney/spinneylaw6.TablePlays", spec := "tablePlays", inPlace := ["sync/atomic.AddInt64", "sync/atomic.LoadUint64", "sync/atomic.CompareAndSwapUint64", "sync/atomic.StoreUint64"], unfollowed := true, recurses := true, apart := false, narrowed := true }
def TablePlaysUptoSaid : Prop := tablePlaysUptoRow.holds Try.pinned (OpenSpec.upto tablePlaysSpec)

/-- 'spinneylaw7.CacheLast', WHERE WHAT IT READS IS OF BULK AT MOST 1048576: true; the input reads as it did. -/
def cacheLastUptoRow : OpenClaim := { program := "ytbjdjgdbkfjglaa", sum := "2d6567a5503321cfcbaaa6a3a28e58ae70efe24d832c456c74964a7b4c064cea", func := "spinney/spinneylaw7.CacheLast", spec := "cacheLast", inPlace := ["sync/atomic.AddInt64", "sync/atomic.LoadUint64", "sync/atomic.StoreUint64", "sync/atomic.CompareAndSwapUint64"], unfollowed := true, recurses := true, apart := false, narrowed := true }
def CacheLastUptoSaid : Prop := cacheLastUptoRow.holds Try.pinned (OpenSpec.upto cacheLastSpec)

/-- 'spinneylaw7.CacheCells', WHERE WHAT IT READS IS OF BULK AT MOST 1048576: true; the input reads as it did. -/
def cacheCellsUptoRow : OpenClaim := { program := "ytbjdjgdbkfjglaa", sum := "2d6567a5503321cfcbaaa6a3a28e58ae70efe24d832c456c74964a7b4c064cea", func := "spinney/spinneylaw7.CacheCells", spec := "cacheCells", inPlace := ["sync/atomic.AddInt64", "sync/atomic.LoadUint64", "sync/atomic.StoreUint64", "sync/atomic.CompareAndSwapUint64"], unfollowed := true, recurses := true, apart := false, narrowed := true }
def CacheCellsUptoSaid : Prop := cacheCellsUptoRow.holds Try.pinned (OpenSpec.upto cacheCellsSpec)

/-- 'spinneylaw7.CacheLeft', WHERE WHAT IT READS IS OF BULK AT MOST 1048576: true; the input reads as it did. -/
def cacheLeftUptoRow : OpenClaim := { program := "ytbjdjgdbkfjglaa", sum := "2d6567a5503321cfcbaaa6a3a28e58ae70efe24d832c456c74964a7b4c064cea", func := "spinney/spinneylaw7.CacheLeft", spec := "cacheLeft", inPlace := ["sync/atomic.AddInt64", "sync/atomic.LoadUint64", "sync/atomic.StoreUint64", "sync/atomic.CompareAndSwapUint64"], unfollowed := true, recurses := true, apart := false, narrowed := true }
def CacheLeftUptoSaid : Prop := cacheLeftUptoRow.holds Try.pinned (OpenSpec.upto cacheLeftSpec)

end Rows
end Go.Proofs.Ytbjdjgdbkfjglaa
