/-
  No cell of these rows narrows 'for every input' (looked for: loops, veiled, ifaces, maps, wideKeys, modest, calm, conditions, laid).
  DERIVED. THE GIVEN ROWS OF THIS SEAT. 5 by the template 'for every input the law returns true; each argument reads behind the call as it read before'; 0 by the template 'total and deterministic' (their statements: YtfehilinnalflaaGreatTotals.lean).
  GIVEN WITH THE SEED: the statements are not yours to turn. If you find one false, say at which input.
  Laid BY PROGRAM, IN A SANDBOX (cutbox-rows.mjs): the forced cells as the released guide's own fill.sh prints them over the translation 6c658f240161dc32… (all of the seat's roots in one cut). By AI agents, Wed Nov 11 2026. No macro, syntax, notation, axiom, sorry.
-/
import Derived.Test.YtfehilinnalflaaGreatChecked
import GoSem.Claim
import GoSem.ClaimJoined
import GoSem.ClaimMapViews
import Derived.JoinedTies
import Derived.KernelRfl
namespace Go.Proofs.YtfehilinnalflaaGreat
/- THE CELL 'sum', in the pinned program and in every row, IS THE sha256 OF THE DUMP (.gsa) THAT YtfehilinnalflaaGreatProg.lean LOADS. Nothing in Lean hashes anything: it is a label: what it is worth is what the hold of that sum in a sandbox is worth. -/
noncomputable def Tryz.pinned : Pinned := { name := "ytfehilinnalflaagreat", sum := "6c658f240161dc321505215faff1f18db2497c537a4345973ab1784cc446b8a8", checked := Tryz.checked }
namespace Rows
def none {H : Type} : Left H := { results := [], args := [] }

/-- 'sallyporttop.WholeFenced': WHATEVER THE INPUT: true; the input reads as it did. -/
def wholeFencedSpec : ChangeSpec := { name := "wholeFenced", fn := fun _ => fun
  | [d1, d2] => { results := [.lit (.bool true)], args := [d1, d2] }
  | _ => none }
def wholeFencedRow : OpenClaim := { program := "ytfehilinnalflaagreat", sum := "6c658f240161dc321505215faff1f18db2497c537a4345973ab1784cc446b8a8", func := "sallyport/sallyporttop.WholeFenced", spec := "wholeFenced", inPlace := ["sync/atomic.AddInt64", "sync/atomic.StoreUint64", "sync/atomic.LoadUint64", "sync/atomic.LoadUint32", "(*internal/sync.Mutex).Lock", "internal/race.Disable", "sync/atomic.CompareAndSwapInt32", "internal/race.Enable", "internal/race.Acquire", "(*internal/sync.Mutex).lockSlow", "internal/sync.runtime_canSpin", "internal/sync.runtime_doSpin", "internal/sync.throw", "internal/sync.runtime_nanotime", "internal/sync.runtime_SemacquireMutex", "sync/atomic.AddInt32", "(*internal/sync.Mutex).Unlock", "internal/race.ReleaseMerge", "(*internal/sync.Mutex).unlockSlow", "internal/sync.fatal", "internal/sync.runtime_Semrelease", "sync/atomic.StoreUint32"], unfollowed := true, recurses := true, apart := false }
def WholeFencedSaid : Prop := wholeFencedRow.holds Tryz.pinned (OpenSpec.ofChange wholeFencedSpec)

/-- ITS FALSE NEIGHBOUR: 'it returns false'. Refute it at one input. -/
def wholeFencedWrong : ChangeSpec := { name := "wholeFenced", fn := fun _ => fun
  | [d1, d2] => { results := [.lit (.bool false)], args := [d1, d2] }
  | _ => none }
def WholeFencedWrongFalsely : Prop := wholeFencedRow.holds Tryz.pinned (OpenSpec.ofChange wholeFencedWrong)

/-- 'sallyporttop.WholePaged': WHATEVER THE INPUT: true; the input reads as it did. -/
def wholePagedSpec : ChangeSpec := { name := "wholePaged", fn := fun _ => fun
  | [d1, d2] => { results := [.lit (.bool true)], args := [d1, d2] }
  | _ => none }
def wholePagedRow : OpenClaim := { program := "ytfehilinnalflaagreat", sum := "6c658f240161dc321505215faff1f18db2497c537a4345973ab1784cc446b8a8", func := "sallyport/sallyporttop.WholePaged", spec := "wholePaged", inPlace := ["sync/atomic.AddInt64", "sync/atomic.StoreUint64", "sync/atomic.LoadUint64", "sync/atomic.LoadUint32", "(*internal/sync.Mutex).Lock", "internal/race.Disable", "sync/atomic.CompareAndSwapInt32", "internal/race.Enable", "internal/race.Acquire", "(*internal/sync.Mutex).lockSlow", "internal/sync.runtime_canSpin", "internal/sync.runtime_doSpin", "internal/sync.throw", "internal/sync.runtime_nanotime", "internal/sync.runtime_SemacquireMutex", "sync/atomic.AddInt32", "(*internal/sync.Mutex).Unlock", "internal/race.ReleaseMerge", "(*internal/sync.Mutex).unlockSlow", "internal/sync.fatal", "internal/sync.runtime_Semrelease", "sync/atomic.StoreUint32"], unfollowed := true, recurses := true, apart := false }
def WholePagedSaid : Prop := wholePagedRow.holds Tryz.pinned (OpenSpec.ofChange wholePagedSpec)

/-- ITS FALSE NEIGHBOUR: 'it returns false'. Refute it at one input. -/
def wholePagedWrong : ChangeSpec := { name := "wholePaged", fn := fun _ => fun
  | [d1, d2] => { results := [.lit (.bool false)], args := [d1, d2] }
  | _ => none }
def WholePagedWrongFalsely : Prop := wholePagedRow.holds Tryz.pinned (OpenSpec.ofChange wholePagedWrong)

/-- 'sallyporttop.WholeLines': WHATEVER THE INPUT: true; the input reads as it did. -/
def wholeLinesSpec : ChangeSpec := { name := "wholeLines", fn := fun _ => fun
  | [d1, d2] => { results := [.lit (.bool true)], args := [d1, d2] }
  | _ => none }
def wholeLinesRow : OpenClaim := { program := "ytfehilinnalflaagreat", sum := "6c658f240161dc321505215faff1f18db2497c537a4345973ab1784cc446b8a8", func := "sallyport/sallyporttop.WholeLines", spec := "wholeLines", inPlace := ["sync/atomic.AddInt64", "sync/atomic.StoreUint64", "sync/atomic.LoadUint64", "sync/atomic.LoadUint32", "(*internal/sync.Mutex).Lock", "internal/race.Disable", "sync/atomic.CompareAndSwapInt32", "internal/race.Enable", "internal/race.Acquire", "(*internal/sync.Mutex).lockSlow", "internal/sync.runtime_canSpin", "internal/sync.runtime_doSpin", "internal/sync.throw", "internal/sync.runtime_nanotime", "internal/sync.runtime_SemacquireMutex", "sync/atomic.AddInt32", "(*internal/sync.Mutex).Unlock", "internal/race.ReleaseMerge", "(*internal/sync.Mutex).unlockSlow", "internal/sync.fatal", "internal/sync.runtime_Semrelease", "sync/atomic.StoreUint32"], unfollowed := true, recurses := true, apart := false }
def WholeLinesSaid : Prop := wholeLinesRow.holds Tryz.pinned (OpenSpec.ofChange wholeLinesSpec)

/-- ITS FALSE NEIGHBOUR: 'it returns false'. Refute it at one input. -/
def wholeLinesWrong : ChangeSpec := { name := "wholeLines", fn := fun _ => fun
  | [d1, d2] => { results := [.lit (.bool false)], args := [d1, d2] }
  | _ => none }
def WholeLinesWrongFalsely : Prop := wholeLinesRow.holds Tryz.pinned (OpenSpec.ofChange wholeLinesWrong)

/-- 'sallyporttop.WholeLevels': WHATEVER THE INPUT: true; the input reads as it did. -/
def wholeLevelsSpec : ChangeSpec := { name := "wholeLevels", fn := fun _ => fun
  | [d1, d2, d3, d4] => { results := [.lit (.bool true)], args := [d1, d2, d3, d4] }
  | _ => none }
def wholeLevelsRow : OpenClaim := { program := "ytfehilinnalflaagreat", sum := "6c658f240161dc321505215faff1f18db2497c537a4345973ab1784cc446b8a8", func := "sallyport/sallyporttop.WholeLevels", spec := "wholeLevels", inPlace := ["sync/atomic.AddInt64", "sync/atomic.StoreUint64", "sync/atomic.LoadUint64", "sync/atomic.LoadUint32", "(*internal/sync.Mutex).Lock", "internal/race.Disable", "sync/atomic.CompareAndSwapInt32", "internal/race.Enable", "internal/race.Acquire", "(*internal/sync.Mutex).lockSlow", "internal/sync.runtime_canSpin", "internal/sync.runtime_doSpin", "internal/sync.throw", "internal/sync.runtime_nanotime", "internal/sync.runtime_SemacquireMutex", "sync/atomic.AddInt32", "(*internal/sync.Mutex).Unlock", "internal/race.ReleaseMerge", "(*internal/sync.Mutex).unlockSlow", "internal/sync.fatal", "internal/sync.runtime_Semrelease", "sync/atomic.StoreUint32"], unfollowed := true, recurses := true, apart := false }
def WholeLevelsSaid : Prop := wholeLevelsRow.holds Tryz.pinned (OpenSpec.ofChange wholeLevelsSpec)

/-- ITS FALSE NEIGHBOUR: 'it returns false'. Refute it at one input. -/
def wholeLevelsWrong : ChangeSpec := { name := "wholeLevels", fn := fun _ => fun
  | [d1, d2, d3, d4] => { results := [.lit (.bool false)], args := [d1, d2, d3, d4] }
  | _ => none }
def WholeLevelsWrongFalsely : Prop := wholeLevelsRow.holds Tryz.pinned (OpenSpec.ofChange wholeLevelsWrong)

/-- 'sallyporttop.WholeGoes': WHATEVER THE INPUT: true; the input reads as it did. -/
def wholeGoesSpec : ChangeSpec := { name := "wholeGoes", fn := fun _ => fun
  | [d1, d2, d3, d4, d5, d6] => { results := [.lit (.bool true)], args := [d1, d2, d3, d4, d5, d6] }
  | _ => none }
def wholeGoesRow : OpenClaim := { program := "ytfehilinnalflaagreat", sum := "6c658f240161dc321505215faff1f18db2497c537a4345973ab1784cc446b8a8", func := "sallyport/sallyporttop.WholeGoes", spec := "wholeGoes", inPlace := ["sync/atomic.AddInt64", "sync/atomic.StoreUint64", "sync/atomic.LoadUint64", "sync/atomic.LoadUint32", "(*internal/sync.Mutex).Lock", "internal/race.Disable", "sync/atomic.CompareAndSwapInt32", "internal/race.Enable", "internal/race.Acquire", "(*internal/sync.Mutex).lockSlow", "internal/sync.runtime_canSpin", "internal/sync.runtime_doSpin", "internal/sync.throw", "internal/sync.runtime_nanotime", "internal/sync.runtime_SemacquireMutex", "sync/atomic.AddInt32", "(*internal/sync.Mutex).Unlock", "internal/race.ReleaseMerge", "(*internal/sync.Mutex).unlockSlow", "internal/sync.fatal", "internal/sync.runtime_Semrelease", "sync/atomic.StoreUint32"], unfollowed := true, recurses := true, apart := false }
def WholeGoesSaid : Prop := wholeGoesRow.holds Tryz.pinned (OpenSpec.ofChange wholeGoesSpec)

/-- ITS FALSE NEIGHBOUR: 'it returns false'. Refute it at one input. -/
def wholeGoesWrong : ChangeSpec := { name := "wholeGoes", fn := fun _ => fun
  | [d1, d2, d3, d4, d5, d6] => { results := [.lit (.bool false)], args := [d1, d2, d3, d4, d5, d6] }
  | _ => none }
def WholeGoesWrongFalsely : Prop := wholeGoesRow.holds Tryz.pinned (OpenSpec.ofChange wholeGoesWrong)

/- THE SECOND FORM. 'bulk': how many values and letters a reading holds, each counted each time it is reached (what is shared counts as often as it is met; a slice's spare places count too). A statement '..UptoSaid' is the law's where the arguments, and the package variables that the reading takes, are together of bulk at most 1048576: NARROWER than '..Said'. Prove '..Said' where nothing that the law and all that it calls make is longer than what came in: it says more and counts as full. Else prove '..UptoSaid'. A law counts once. -/
mutual
def uptoBulk {H : Type} : DataW H → Nat
  | .lit (.string bytes) => bytes.length + 1
  | .lit _ => 1
  | .nil => 1
  | .ptr d => uptoBulk d + 1
  | .slice elems spare => uptoBulkAll elems + uptoBulkAll spare + 1
  | .agg parts => uptoBulkAll parts + 1
  | .iface _ d => uptoBulk d + 1
  | .map entries => uptoBulkEntries entries + 1
  | .held _ => 1
def uptoBulkAll {H : Type} : List (DataW H) → Nat
  | [] => 0
  | d :: r => uptoBulk d + uptoBulkAll r
def uptoBulkEntries {H : Type} : List (Lit × DataW H) → Nat
  | [] => 0
  | x :: r => uptoBulkEntry x + uptoBulkEntries r
def uptoBulkEntry {H : Type} : Lit × DataW H → Nat
  | (.string bytes, d) => bytes.length + uptoBulk d + 1
  | (_, d) => uptoBulk d + 1
 end
def uptoSmall : (H : Type) → List (DataW H) → Bool := fun _ ds => decide (uptoBulkAll ds ≤ 1048576)
def OpenSpec.upto (s : _root_.Go.ChangeSpec) : _root_.Go.OpenSpec := { _root_.Go.OpenSpec.ofChange s with cond := some uptoSmall }

/-- 'sallyporttop.WholeFenced', WHERE WHAT IT READS IS OF BULK AT MOST 1048576: true; the input reads as it did. -/
def wholeFencedUptoRow : OpenClaim := { program := "ytfehilinnalflaagreat", sum := "6c658f240161dc321505215faff1f18db2497c537a4345973ab1784cc446b8a8", func := "sallyport/sallyporttop.WholeFenced", spec := "wholeFenced", inPlace := ["sync/atomic.AddInt64", "sync/atomic.StoreUint64", "sync/atomic.LoadUint64", "sync/atomic.LoadUint32", "(*internal/sync.Mutex).Lock", "internal/race.Disable", "sync/atomic.CompareAndSwapInt32", "internal/race.Enable", "internal/race.Acquire", "(*internal/sync.Mutex).lockSlow", "internal/sync.runtime_canSpin", "internal/sync.runtime_doSpin", "internal/sync.throw", "internal/sync.runtime_nanotime", "internal/sync.runtime_SemacquireMutex", "sync/atomic.AddInt32", "(*internal/sync.Mutex).Unlock", "internal/race.ReleaseMerge", "(*internal/sync.Mutex).unlockSlow", "internal/sync.fatal", "internal/sync.runtime_Semrelease", "sync/atomic.StoreUint32"], unfollowed := true, recurses := true, apart := false, narrowed := true }
def WholeFencedUptoSaid : Prop := wholeFencedUptoRow.holds Tryz.pinned (OpenSpec.upto wholeFencedSpec)

/-- 'sallyporttop.WholePaged', WHERE WHAT IT READS IS OF BULK AT MOST 1048576: true; the input reads as it did. -/
def wholePagedUptoRow : OpenClaim := { program := "ytfehilinnalflaagreat", sum := "6c658f240161dc321505215faff1f18db2497c537a4345973ab1784cc446b8a8", func := "sallyport/sallyporttop.WholePaged", spec := "wholePaged", inPlace := ["sync/atomic.AddInt64", "sync/atomic.StoreUint64", "sync/atomic.LoadUint64", "sync/atomic.LoadUint32", "(*internal/sync.Mutex).Lock", "internal/race.Disable", "sync/atomic.CompareAndSwapInt32", "internal/race.Enable", "internal/race.Acquire", "(*internal/sync.Mutex).lockSlow", "internal/sync.runtime_canSpin", "internal/sync.runtime_doSpin", "internal/sync.throw", "internal/sync.runtime_nanotime", "internal/sync.runtime_SemacquireMutex", "sync/atomic.AddInt32", "(*internal/sync.Mutex).Unlock", "internal/race.ReleaseMerge", "(*internal/sync.Mutex).unlockSlow", "internal/sync.fatal", "internal/sync.runtime_Semrelease", "sync/atomic.StoreUint32"], unfollowed := true, recurses := true, apart := false, narrowed := true }
def WholePagedUptoSaid : Prop := wholePagedUptoRow.holds Tryz.pinned (OpenSpec.upto wholePagedSpec)

/-- 'sallyporttop.WholeLines', WHERE WHAT IT READS IS OF BULK AT MOST 1048576: true; the input reads as it did. -/
def wholeLinesUptoRow : OpenClaim := { program := "ytfehilinnalflaagreat", sum := "6c658f240161dc321505215faff1f18db2497c537a4345973ab1784cc446b8a8", func := "sallyport/sallyporttop.WholeLines", spec := "wholeLines", inPlace := ["sync/atomic.AddInt64", "sync/atomic.StoreUint64", "sync/atomic.LoadUint64", "sync/atomic.LoadUint32", "(*internal/sync.Mutex).Lock", "internal/race.Disable", "sync/atomic.CompareAndSwapInt32", "internal/race.Enable", "internal/race.Acquire", "(*internal/sync.Mutex).lockSlow", "internal/sync.runtime_canSpin", "internal/sync.runtime_doSpin", "internal/sync.throw", "internal/sync.runtime_nanotime", "internal/sync.runtime_SemacquireMutex", "sync/atomic.AddInt32", "(*internal/sync.Mutex).Unlock", "internal/race.ReleaseMerge", "(*internal/sync.Mutex).unlockSlow", "internal/sync.fatal", "internal/sync.runtime_Semrelease", "sync/atomic.StoreUint32"], unfollowed := true, recurses := true, apart := false, narrowed := true }
def WholeLinesUptoSaid : Prop := wholeLinesUptoRow.holds Tryz.pinned (OpenSpec.upto wholeLinesSpec)

/-- 'sallyporttop.WholeLevels', WHERE WHAT IT READS IS OF BULK AT MOST 1048576: true; the input reads as it did. -/
def wholeLevelsUptoRow : OpenClaim := { program := "ytfehilinnalflaagreat", sum := "6c658f240161dc321505215faff1f18db2497c537a4345973ab1784cc446b8a8", func := "sallyport/sallyporttop.WholeLevels", spec := "wholeLevels", inPlace := ["sync/atomic.AddInt64", "sync/atomic.StoreUint64", "sync/atomic.LoadUint64", "sync/atomic.LoadUint32", "(*internal/sync.Mutex).Lock", "internal/race.Disable", "sync/atomic.CompareAndSwapInt32", "internal/race.Enable", "internal/race.Acquire", "(*internal/sync.Mutex).lockSlow", "internal/sync.runtime_canSpin", "internal/sync.runtime_doSpin", "internal/sync.throw", "internal/sync.runtime_nanotime", "internal/sync.runtime_SemacquireMutex", "sync/atomic.AddInt32", "(*internal/sync.Mutex).Unlock", "internal/race.ReleaseMerge", "(*internal/sync.Mutex).unlockSlow", "internal/sync.fatal", "internal/sync.runtime_Semrelease", "sync/atomic.StoreUint32"], unfollowed := true, recurses := true, apart := false, narrowed := true }
def WholeLevelsUptoSaid : Prop := wholeLevelsUptoRow.holds Tryz.pinned (OpenSpec.upto wholeLevelsSpec)

/-- 'sallyporttop.WholeGoes', WHERE WHAT IT READS IS OF BULK AT MOST 1048576: true; the input reads as it did. -/
def wholeGoesUptoRow : OpenClaim := { program := "ytfehilinnalflaagreat", sum := "6c658f240161dc321505215faff1f18db2497c537a4345973ab1784cc446b8a8", func := "sallyport/sallyporttop.WholeGoes", spec := "wholeGoes", inPlace := ["sync/atomic.AddInt64", "sync/atomic.StoreUint64", "sync/atomic.LoadUint64", "sync/atomic.LoadUint32", "(*internal/sync.Mutex).Lock", "internal/race.Disable", "sync/atomic.CompareAndSwapInt32", "internal/race.Enable", "internal/race.Acquire", "(*internal/sync.Mutex).lockSlow", "internal/sync.runtime_canSpin", "internal/sync.runtime_doSpin", "internal/sync.throw", "internal/sync.runtime_nanotime", "internal/sync.runtime_SemacquireMutex", "sync/atomic.AddInt32", "(*internal/sync.Mutex).Unlock", "internal/race.ReleaseMerge", "(*internal/sync.Mutex).unlockSlow", "internal/sync.fatal", "internal/sync.runtime_Semrelease", "sync/atomic.StoreUint32"], unfollowed := true, recurses := true, apart := false, narrowed := true }
def WholeGoesUptoSaid : Prop := wholeGoesUptoRow.holds Tryz.pinned (OpenSpec.upto wholeGoesSpec)

end Rows
end Go.Proofs.YtfehilinnalflaaGreat
