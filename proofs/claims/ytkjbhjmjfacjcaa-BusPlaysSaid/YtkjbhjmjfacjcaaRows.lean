/-
  No cell of these rows narrows 'for every input' (looked for: loops, veiled, ifaces, maps, wideKeys, modest, calm, conditions, laid).
  DERIVED. THE GIVEN ROWS OF THIS SEAT. 10 by the template 'for every input the law returns true; each argument reads behind the call as it read before'; 0 by the template 'total and deterministic' (their statements: YtkjbhjmjfacjcaaTotals.lean).
  GIVEN WITH THE SEED: the statements are not yours to turn. If you find one false, say at which input.
  Laid BY PROGRAM, IN A SANDBOX (cutbox-rows.mjs): the forced cells as the released guide's own fill.sh prints them over the translation ccd18f3b0f6d5f1a… (all of the seat's roots in one cut). By AI agents, Wed Nov 11 2026. No macro, syntax, notation, axiom, sorry.
-/
import Derived.Test.YtkjbhjmjfacjcaaChecked
import GoSem.Claim
import GoSem.ClaimJoined
import GoSem.ClaimMapViews
import Derived.JoinedTies
import Derived.KernelRfl
namespace Go.Proofs.Ytkjbhjmjfacjcaa
/- THE CELL 'sum', in the pinned program and in every row, IS THE sha256 OF THE DUMP (.gsa) THAT YtkjbhjmjfacjcaaProg.lean LOADS. Nothing in Lean hashes anything: it is a label: what it is worth is what the hold of that sum in a sandbox is worth. -/
noncomputable def Try.pinned : Pinned := { name := "ytkjbhjmjfacjcaa", sum := "ccd18f3b0f6d5f1a4c70818b295741f2c890ed402a325eba2dd928e48902bfa5", checked := Try.checked }
namespace Rows
def none {H : Type} : Left H := { results := [], args := [] }

/-- 'sallyportlaw11.WalkTells': WHATEVER THE INPUT: true; the input reads as it did. -/
def walkTellsSpec : ChangeSpec := { name := "walkTells", fn := fun _ => fun
  | [d1, d2, d3, d4, d5] => { results := [.lit (.bool true)], args := [d1, d2, d3, d4, d5] }
  | _ => none }
def walkTellsRow : OpenClaim := { program := "ytkjbhjmjfacjcaa", sum := "ccd18f3b0f6d5f1a4c70818b295741f2c890ed402a325eba2dd928e48902bfa5", func := "sallyport/sallyportlaw11.WalkTells", spec := "walkTells", unfollowed := true, recurses := true, apart := false }
def WalkTellsSaid : Prop := walkTellsRow.holds Try.pinned (OpenSpec.ofChange walkTellsSpec)

/-- ITS FALSE NEIGHBOUR: 'it returns false'. Refute it at one input. -/
def walkTellsWrong : ChangeSpec := { name := "walkTells", fn := fun _ => fun
  | [d1, d2, d3, d4, d5] => { results := [.lit (.bool false)], args := [d1, d2, d3, d4, d5] }
  | _ => none }
def WalkTellsWrongFalsely : Prop := walkTellsRow.holds Try.pinned (OpenSpec.ofChange walkTellsWrong)

/-- 'sallyportlaw11.WalkLaid': WHATEVER THE INPUT: true; the input reads as it did. -/
def walkLaidSpec : ChangeSpec := { name := "walkLaid", fn := fun _ => fun
  | [d1, d2] => { results := [.lit (.bool true)], args := [d1, d2] }
  | _ => none }
def walkLaidRow : OpenClaim := { program := "ytkjbhjmjfacjcaa", sum := "ccd18f3b0f6d5f1a4c70818b295741f2c890ed402a325eba2dd928e48902bfa5", func := "sallyport/sallyportlaw11.WalkLaid", spec := "walkLaid", unfollowed := true, recurses := true, apart := false }
def WalkLaidSaid : Prop := walkLaidRow.holds Try.pinned (OpenSpec.ofChange walkLaidSpec)

/-- ITS FALSE NEIGHBOUR: 'it returns false'. Refute it at one input. -/
def walkLaidWrong : ChangeSpec := { name := "walkLaid", fn := fun _ => fun
  | [d1, d2] => { results := [.lit (.bool false)], args := [d1, d2] }
  | _ => none }
def WalkLaidWrongFalsely : Prop := walkLaidRow.holds Try.pinned (OpenSpec.ofChange walkLaidWrong)

/-- 'sallyportlaw11.WalkGreat': WHATEVER THE INPUT: true; the input reads as it did. -/
def walkGreatSpec : ChangeSpec := { name := "walkGreat", fn := fun _ => fun
  | [d1, d2, d3] => { results := [.lit (.bool true)], args := [d1, d2, d3] }
  | _ => none }
def walkGreatRow : OpenClaim := { program := "ytkjbhjmjfacjcaa", sum := "ccd18f3b0f6d5f1a4c70818b295741f2c890ed402a325eba2dd928e48902bfa5", func := "sallyport/sallyportlaw11.WalkGreat", spec := "walkGreat", unfollowed := true, recurses := true, apart := false }
def WalkGreatSaid : Prop := walkGreatRow.holds Try.pinned (OpenSpec.ofChange walkGreatSpec)

/-- ITS FALSE NEIGHBOUR: 'it returns false'. Refute it at one input. -/
def walkGreatWrong : ChangeSpec := { name := "walkGreat", fn := fun _ => fun
  | [d1, d2, d3] => { results := [.lit (.bool false)], args := [d1, d2, d3] }
  | _ => none }
def WalkGreatWrongFalsely : Prop := walkGreatRow.holds Try.pinned (OpenSpec.ofChange walkGreatWrong)

/-- 'sallyportlaw11.WalkNone': WHATEVER THE INPUT: true; the input reads as it did. -/
def walkNoneSpec : ChangeSpec := { name := "walkNone", fn := fun _ => fun
  | [d1, d2] => { results := [.lit (.bool true)], args := [d1, d2] }
  | _ => none }
def walkNoneRow : OpenClaim := { program := "ytkjbhjmjfacjcaa", sum := "ccd18f3b0f6d5f1a4c70818b295741f2c890ed402a325eba2dd928e48902bfa5", func := "sallyport/sallyportlaw11.WalkNone", spec := "walkNone", unfollowed := true, recurses := true, apart := false }
def WalkNoneSaid : Prop := walkNoneRow.holds Try.pinned (OpenSpec.ofChange walkNoneSpec)

/-- ITS FALSE NEIGHBOUR: 'it returns false'. Refute it at one input. -/
def walkNoneWrong : ChangeSpec := { name := "walkNone", fn := fun _ => fun
  | [d1, d2] => { results := [.lit (.bool false)], args := [d1, d2] }
  | _ => none }
def WalkNoneWrongFalsely : Prop := walkNoneRow.holds Try.pinned (OpenSpec.ofChange walkNoneWrong)

/-- 'sallyportlaw11.WalkPointers': WHATEVER THE INPUT: true; the input reads as it did. -/
def walkPointersSpec : ChangeSpec := { name := "walkPointers", fn := fun _ => fun
  | [d1, d2, d3] => { results := [.lit (.bool true)], args := [d1, d2, d3] }
  | _ => none }
def walkPointersRow : OpenClaim := { program := "ytkjbhjmjfacjcaa", sum := "ccd18f3b0f6d5f1a4c70818b295741f2c890ed402a325eba2dd928e48902bfa5", func := "sallyport/sallyportlaw11.WalkPointers", spec := "walkPointers", unfollowed := true, recurses := true, apart := false }
def WalkPointersSaid : Prop := walkPointersRow.holds Try.pinned (OpenSpec.ofChange walkPointersSpec)

/-- ITS FALSE NEIGHBOUR: 'it returns false'. Refute it at one input. -/
def walkPointersWrong : ChangeSpec := { name := "walkPointers", fn := fun _ => fun
  | [d1, d2, d3] => { results := [.lit (.bool false)], args := [d1, d2, d3] }
  | _ => none }
def WalkPointersWrongFalsely : Prop := walkPointersRow.holds Try.pinned (OpenSpec.ofChange walkPointersWrong)

/-- 'sallyportlaw7.BusPorts': WHATEVER THE INPUT: true; the input reads as it did. -/
def busPortsSpec : ChangeSpec := { name := "busPorts", fn := fun _ => fun
  | [d1, d2, d3] => { results := [.lit (.bool true)], args := [d1, d2, d3] }
  | _ => none }
def busPortsRow : OpenClaim := { program := "ytkjbhjmjfacjcaa", sum := "ccd18f3b0f6d5f1a4c70818b295741f2c890ed402a325eba2dd928e48902bfa5", func := "sallyport/sallyportlaw7.BusPorts", spec := "busPorts", inPlace := ["sync/atomic.LoadUint64", "sync/atomic.StoreUint64"], apart := false }
def BusPortsSaid : Prop := busPortsRow.holds Try.pinned (OpenSpec.ofChange busPortsSpec)

/-- ITS FALSE NEIGHBOUR: 'it returns false'. Refute it at one input. -/
def busPortsWrong : ChangeSpec := { name := "busPorts", fn := fun _ => fun
  | [d1, d2, d3] => { results := [.lit (.bool false)], args := [d1, d2, d3] }
  | _ => none }
def BusPortsWrongFalsely : Prop := busPortsRow.holds Try.pinned (OpenSpec.ofChange busPortsWrong)

/-- 'sallyportlaw7.BusTimes': WHATEVER THE INPUT: true; the input reads as it did. -/
def busTimesSpec : ChangeSpec := { name := "busTimes", fn := fun _ => fun
  | [d1, d2] => { results := [.lit (.bool true)], args := [d1, d2] }
  | _ => none }
def busTimesRow : OpenClaim := { program := "ytkjbhjmjfacjcaa", sum := "ccd18f3b0f6d5f1a4c70818b295741f2c890ed402a325eba2dd928e48902bfa5", func := "sallyport/sallyportlaw7.BusTimes", spec := "busTimes", inPlace := ["sync/atomic.LoadUint64", "sync/atomic.StoreUint64"], apart := false }
def BusTimesSaid : Prop := busTimesRow.holds Try.pinned (OpenSpec.ofChange busTimesSpec)

/-- ITS FALSE NEIGHBOUR: 'it returns false'. Refute it at one input. -/
def busTimesWrong : ChangeSpec := { name := "busTimes", fn := fun _ => fun
  | [d1, d2] => { results := [.lit (.bool false)], args := [d1, d2] }
  | _ => none }
def BusTimesWrongFalsely : Prop := busTimesRow.holds Try.pinned (OpenSpec.ofChange busTimesWrong)

/-- 'sallyportlaw7.BusWhere': WHATEVER THE INPUT: true; the input reads as it did. -/
def busWhereSpec : ChangeSpec := { name := "busWhere", fn := fun _ => fun
  | [d] => { results := [.lit (.bool true)], args := [d] }
  | _ => none }
def busWhereRow : OpenClaim := { program := "ytkjbhjmjfacjcaa", sum := "ccd18f3b0f6d5f1a4c70818b295741f2c890ed402a325eba2dd928e48902bfa5", func := "sallyport/sallyportlaw7.BusWhere", spec := "busWhere", inPlace := ["sync/atomic.LoadUint64", "sync/atomic.StoreUint64"], apart := false }
def BusWhereSaid : Prop := busWhereRow.holds Try.pinned (OpenSpec.ofChange busWhereSpec)

/-- ITS FALSE NEIGHBOUR: 'it returns false'. Refute it at one input. -/
def busWhereWrong : ChangeSpec := { name := "busWhere", fn := fun _ => fun
  | [d] => { results := [.lit (.bool false)], args := [d] }
  | _ => none }
def BusWhereWrongFalsely : Prop := busWhereRow.holds Try.pinned (OpenSpec.ofChange busWhereWrong)

/-- 'sallyportlaw7.BusMemory': WHATEVER THE INPUT: true; the input reads as it did. -/
def busMemorySpec : ChangeSpec := { name := "busMemory", fn := fun _ => fun
  | [d1, d2] => { results := [.lit (.bool true)], args := [d1, d2] }
  | _ => none }
def busMemoryRow : OpenClaim := { program := "ytkjbhjmjfacjcaa", sum := "ccd18f3b0f6d5f1a4c70818b295741f2c890ed402a325eba2dd928e48902bfa5", func := "sallyport/sallyportlaw7.BusMemory", spec := "busMemory", inPlace := ["sync/atomic.LoadUint64", "sync/atomic.StoreUint64"], apart := false }
def BusMemorySaid : Prop := busMemoryRow.holds Try.pinned (OpenSpec.ofChange busMemorySpec)

/-- ITS FALSE NEIGHBOUR: 'it returns false'. Refute it at one input. -/
def busMemoryWrong : ChangeSpec := { name := "busMemory", fn := fun _ => fun
  | [d1, d2] => { results := [.lit (.bool false)], args := [d1, d2] }
  | _ => none }
def BusMemoryWrongFalsely : Prop := busMemoryRow.holds Try.pinned (OpenSpec.ofChange busMemoryWrong)

/-- 'sallyportlaw7.BusPlays': WHATEVER THE INPUT: true; the input reads as it did. -/
def busPlaysSpec : ChangeSpec := { name := "busPlays", fn := fun _ => fun
  | [d] => { results := [.lit (.bool true)], args := [d] }
  | _ => none }
def busPlaysRow : OpenClaim := { program := "ytkjbhjmjfacjcaa", sum := "ccd18f3b0f6d5f1a4c70818b295741f2c890ed402a325eba2dd928e48902bfa5", func := "sallyport/sallyportlaw7.BusPlays", spec := "busPlays", inPlace := ["sync/atomic.LoadUint64", "sync/atomic.StoreUint64"], apart := false }
def BusPlaysSaid : Prop := busPlaysRow.holds Try.pinned (OpenSpec.ofChange busPlaysSpec)

/-- ITS FALSE NEIGHBOUR: 'it returns false'. Refute it at one input. -/
def busPlaysWrong : ChangeSpec := { name := "busPlays", fn := fun _ => fun
  | [d] => { results := [.lit (.bool false)], args := [d] }
  | _ => none }
def BusPlaysWrongFalsely : Prop := busPlaysRow.holds Try.pinned (OpenSpec.ofChange busPlaysWrong)

/- THE SECOND FORM. 'bulk': how many values and letters a reading holds, each counted each time it is reached (what is shared counts as often as it is met; a slice's spare places count too). A statement '..UptoSaid' is the law's where the arguments, and the package variables that the reading takes, are together of bulk at most 1048576: NARROWER than '..Said'. Prove '..Said' where nothing that the law and all that it calls make is longer than what came in: it says more and counts as full. Else prove '..UptoSaid'. A law counts once. -/
mutual
def uptoBulk {H : Type} : DataW H → Nat
  | .lit (.string bytes) => bytes.length + 1
  | .lit _ => 1
  | .nil => 1
  | .ptr d => uptoBulk d + 1
  | .slice elems spare => uptoBulkAll elems + uptoBulkAll spare + 1
  | .agg parts => uptoBulkAll parts + 1
  | .iface _ d => uptoBulk d + 1
  | .map entries => uptoBulkEntries entries + 1
  | .held _ => 1
def uptoBulkAll {H : Type} : List (DataW H) → Nat
  | [] => 0
  | d :: r => uptoBulk d + uptoBulkAll r
def uptoBulkEntries {H : Type} : List (Lit × DataW H) → Nat
  | [] => 0
  | x :: r => uptoBulkEntry x + uptoBulkEntries r
def uptoBulkEntry {H : Type} : Lit × DataW H → Nat
  | (.string bytes, d) => bytes.length + uptoBulk d + 1
  | (_, d) => uptoBulk d + 1
 end
def uptoSmall : (H : Type) → List (DataW H) → Bool := fun _ ds => decide (uptoBulkAll ds ≤ 1048576)
def OpenSpec.upto (s : _root_.Go.ChangeSpec) : _root_.Go.OpenSpec := { _root_.Go.OpenSpec.ofChange s with cond := some uptoSmall }

/-- 'sallyportlaw11.WalkTells', WHERE WHAT IT READS IS OF BULK AT MOST 1048576: true; the input reads as it did. -/
def walkTellsUptoRow : OpenClaim := { program := "ytkjbhjmjfacjcaa", sum := "ccd18f3b0f6d5f1a4c70818b295741f2c890ed402a325eba2dd928e48902bfa5", func := "sallyport/sallyportlaw11.WalkTells", spec := "walkTells", unfollowed := true, recurses := true, apart := false, narrowed := true }
def WalkTellsUptoSaid : Prop := walkTellsUptoRow.holds Try.pinned (OpenSpec.upto walkTellsSpec)

/-- 'sallyportlaw11.WalkLaid', WHERE WHAT IT READS IS OF BULK AT MOST 1048576: true; the input reads as it did. -/
def walkLaidUptoRow : OpenClaim := { program := "ytkjbhjmjfacjcaa", sum := "ccd18f3b0f6d5f1a4c70818b295741f2c890ed402a325eba2dd928e48902bfa5", func := "sallyport/sallyportlaw11.WalkLaid", spec := "walkLaid", unfollowed := true, recurses := true, apart := false, narrowed := true }
def WalkLaidUptoSaid : Prop := walkLaidUptoRow.holds Try.pinned (OpenSpec.upto walkLaidSpec)

/-- 'sallyportlaw11.WalkGreat', WHERE WHAT IT READS IS OF BULK AT MOST 1048576: true; the input reads as it did. -/
def walkGreatUptoRow : OpenClaim := { program := "ytkjbhjmjfacjcaa", sum := "ccd18f3b0f6d5f1a4c70818b295741f2c890ed402a325eba2dd928e48902bfa5", func := "sallyport/sallyportlaw11.WalkGreat", spec := "walkGreat", unfollowed := true, recurses := true, apart := false, narrowed := true }
def WalkGreatUptoSaid : Prop := walkGreatUptoRow.holds Try.pinned (OpenSpec.upto walkGreatSpec)

/-- 'sallyportlaw11.WalkNone', WHERE WHAT IT READS IS OF BULK AT MOST 1048576: true; the input reads as it did. -/
def walkNoneUptoRow : OpenClaim := { program := "ytkjbhjmjfacjcaa", sum := "ccd18f3b0f6d5f1a4c70818b295741f2c890ed402a325eba2dd928e48902bfa5", func := "sallyport/sallyportlaw11.WalkNone", spec := "walkNone", unfollowed := true, recurses := true, apart := false, narrowed := true }
def WalkNoneUptoSaid : Prop := walkNoneUptoRow.holds Try.pinned (OpenSpec.upto walkNoneSpec)

/-- 'sallyportlaw11.WalkPointers', WHERE WHAT IT READS IS OF BULK AT MOST 1048576: true; the input reads as it did. -/
def walkPointersUptoRow : OpenClaim := { program := "ytkjbhjmjfacjcaa", sum := "ccd18f3b0f6d5f1a4c70818b295741f2c890ed402a325eba2dd928e48902bfa5", func := "sallyport/sallyportlaw11.WalkPointers", spec := "walkPointers", unfollowed := true, recurses := true, apart := false, narrowed := true }
def WalkPointersUptoSaid : Prop := walkPointersUptoRow.holds Try.pinned (OpenSpec.upto walkPointersSpec)

/-- 'sallyportlaw7.BusPorts', WHERE WHAT IT READS IS OF BULK AT MOST 1048576: true; the input reads as it did. -/
def busPortsUptoRow : OpenClaim := { program := "ytkjbhjmjfacjcaa", sum := "ccd18f3b0f6d5f1a4c70818b295741f2c890ed402a325eba2dd928e48902bfa5", func := "sallyport/sallyportlaw7.BusPorts", spec := "busPorts", inPlace := ["sync/atomic.LoadUint64", "sync/atomic.StoreUint64"], apart := false, narrowed := true }
def BusPortsUptoSaid : Prop := busPortsUptoRow.holds Try.pinned (OpenSpec.upto busPortsSpec)

/-- 'sallyportlaw7.BusTimes', WHERE WHAT IT READS IS OF BULK AT MOST 1048576: true; the input reads as it did. -/
def busTimesUptoRow : OpenClaim := { program := "ytkjbhjmjfacjcaa", sum := "ccd18f3b0f6d5f1a4c70818b295741f2c890ed402a325eba2dd928e48902bfa5", func := "sallyport/sallyportlaw7.BusTimes", spec := "busTimes", inPlace := ["sync/atomic.LoadUint64", "sync/atomic.StoreUint64"], apart := false, narrowed := true }
def BusTimesUptoSaid : Prop := busTimesUptoRow.holds Try.pinned (OpenSpec.upto busTimesSpec)

/-- 'sallyportlaw7.BusWhere', WHERE WHAT IT READS IS OF BULK AT MOST 1048576: true; the input reads as it did. -/
def busWhereUptoRow : OpenClaim := { program := "ytkjbhjmjfacjcaa", sum := "ccd18f3b0f6d5f1a4c70818b295741f2c890ed402a325eba2dd928e48902bfa5", func := "sallyport/sallyportlaw7.BusWhere", spec := "busWhere", inPlace := ["sync/atomic.LoadUint64", "sync/atomic.StoreUint64"], apart := false, narrowed := true }
def BusWhereUptoSaid : Prop := busWhereUptoRow.holds Try.pinned (OpenSpec.upto busWhereSpec)

/-- 'sallyportlaw7.BusMemory', WHERE WHAT IT READS IS OF BULK AT MOST 1048576: true; the input reads as it did. -/
def busMemoryUptoRow : OpenClaim := { program := "ytkjbhjmjfacjcaa", sum := "ccd18f3b0f6d5f1a4c70818b295741f2c890ed402a325eba2dd928e48902bfa5", func := "sallyport/sallyportlaw7.BusMemory", spec := "busMemory", inPlace := ["sync/atomic.LoadUint64", "sync/atomic.StoreUint64"], apart := false, narrowed := true }
def BusMemoryUptoSaid : Prop := busMemoryUptoRow.holds Try.pinned (OpenSpec.upto busMemorySpec)

/-- 'sallyportlaw7.BusPlays', WHERE WHAT IT READS IS OF BULK AT MOST 1048576: true; the input reads as it did. -/
def busPlaysUptoRow : OpenClaim := { program := "ytkjbhjmjfacjcaa", sum := "ccd18f3b0f6d5f1a4c70818b295741f2c890ed402a325eba2dd928e48902bfa5", func := "sallyport/sallyportlaw7.BusPlays", spec := "busPlays", inPlace := ["sync/atomic.LoadUint64", "sync/atomic.StoreUint64"], apart := false, narrowed := true }
def BusPlaysUptoSaid : Prop := busPlaysUptoRow.holds Try.pinned (OpenSpec.upto busPlaysSpec)

end Rows
end Go.Proofs.Ytkjbhjmjfacjcaa
