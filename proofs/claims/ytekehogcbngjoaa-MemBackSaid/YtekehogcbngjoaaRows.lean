/-
  No cell of these rows narrows 'for every input' (looked for: loops, veiled, ifaces, maps, wideKeys, modest, calm, conditions, laid).
  DERIVED. THE GIVEN ROWS OF THIS SEAT. 10 by the template 'for every input the law returns true; each argument reads behind the call as it read before'; 0 by the template 'total and deterministic' (their statements: YtekehogcbngjoaaTotals.lean).
  GIVEN WITH THE SEED: the statements are not yours to turn. If you find one false, say at which input.
  Laid BY PROGRAM, IN A SANDBOX (cutbox-rows.mjs): the forced cells as the released guide's own fill.sh prints them over the translation 975151274e73c23d… (all of the seat's roots in one cut). By AI agents, Wed Nov 11 2026. No macro, syntax, notation, axiom, sorry.
-/
import Derived.Test.YtekehogcbngjoaaChecked
import GoSem.Claim
import GoSem.ClaimJoined
import GoSem.ClaimMapViews
import Derived.JoinedTies
import Derived.KernelRfl
namespace Go.Proofs.Ytekehogcbngjoaa
/- THE CELL 'sum', in the pinned program and in every row, IS THE sha256 OF THE DUMP (.gsa) THAT YtekehogcbngjoaaProg.lean LOADS. Nothing in Lean hashes anything: it is a label: what it is worth is what the hold of that sum in a sandbox is worth. -/
noncomputable def Try.pinned : Pinned := { name := "ytekehogcbngjoaa", sum := "975151274e73c23d75ab9dec862090ccd0491aba90ae2a40f310020b671d7ec1", checked := Try.checked }
namespace Rows
def none {H : Type} : Left H := { results := [], args := [] }

/-- 'sallyportlaw1.WordTells': WHATEVER THE INPUT: true; the input reads as it did. -/
def wordTellsSpec : ChangeSpec := { name := "wordTells", fn := fun _ => fun
  | [d1, d2, d3, d4, d5, d6] => { results := [.lit (.bool true)], args := [d1, d2, d3, d4, d5, d6] }
  | _ => none }
def wordTellsRow : OpenClaim := { program := "ytekehogcbngjoaa", sum := "975151274e73c23d75ab9dec862090ccd0491aba90ae2a40f310020b671d7ec1", func := "sallyport/sallyportlaw1.WordTells", spec := "wordTells", apart := false }
def WordTellsSaid : Prop := wordTellsRow.holds Try.pinned (OpenSpec.ofChange wordTellsSpec)

/-- ITS FALSE NEIGHBOUR: 'it returns false'. Refute it at one input. -/
def wordTellsWrong : ChangeSpec := { name := "wordTells", fn := fun _ => fun
  | [d1, d2, d3, d4, d5, d6] => { results := [.lit (.bool false)], args := [d1, d2, d3, d4, d5, d6] }
  | _ => none }
def WordTellsWrongFalsely : Prop := wordTellsRow.holds Try.pinned (OpenSpec.ofChange wordTellsWrong)

/-- 'sallyportlaw1.WordBack': WHATEVER THE INPUT: true; the input reads as it did. -/
def wordBackSpec : ChangeSpec := { name := "wordBack", fn := fun _ => fun
  | [d1, d2, d3, d4] => { results := [.lit (.bool true)], args := [d1, d2, d3, d4] }
  | _ => none }
def wordBackRow : OpenClaim := { program := "ytekehogcbngjoaa", sum := "975151274e73c23d75ab9dec862090ccd0491aba90ae2a40f310020b671d7ec1", func := "sallyport/sallyportlaw1.WordBack", spec := "wordBack", apart := false }
def WordBackSaid : Prop := wordBackRow.holds Try.pinned (OpenSpec.ofChange wordBackSpec)

/-- ITS FALSE NEIGHBOUR: 'it returns false'. Refute it at one input. -/
def wordBackWrong : ChangeSpec := { name := "wordBack", fn := fun _ => fun
  | [d1, d2, d3, d4] => { results := [.lit (.bool false)], args := [d1, d2, d3, d4] }
  | _ => none }
def WordBackWrongFalsely : Prop := wordBackRow.holds Try.pinned (OpenSpec.ofChange wordBackWrong)

/-- 'sallyportlaw1.WordSigns': WHATEVER THE INPUT: true; the input reads as it did. -/
def wordSignsSpec : ChangeSpec := { name := "wordSigns", fn := fun _ => fun
  | [d1, d2, d3, d4] => { results := [.lit (.bool true)], args := [d1, d2, d3, d4] }
  | _ => none }
def wordSignsRow : OpenClaim := { program := "ytekehogcbngjoaa", sum := "975151274e73c23d75ab9dec862090ccd0491aba90ae2a40f310020b671d7ec1", func := "sallyport/sallyportlaw1.WordSigns", spec := "wordSigns", apart := false }
def WordSignsSaid : Prop := wordSignsRow.holds Try.pinned (OpenSpec.ofChange wordSignsSpec)

/-- ITS FALSE NEIGHBOUR: 'it returns false'. Refute it at one input. -/
def wordSignsWrong : ChangeSpec := { name := "wordSigns", fn := fun _ => fun
  | [d1, d2, d3, d4] => { results := [.lit (.bool false)], args := [d1, d2, d3, d4] }
  | _ => none }
def WordSignsWrongFalsely : Prop := wordSignsRow.holds Try.pinned (OpenSpec.ofChange wordSignsWrong)

/-- 'sallyportlaw1.WordParts': WHATEVER THE INPUT: true; the input reads as it did. -/
def wordPartsSpec : ChangeSpec := { name := "wordParts", fn := fun _ => fun
  | [d1, d2, d3] => { results := [.lit (.bool true)], args := [d1, d2, d3] }
  | _ => none }
def wordPartsRow : OpenClaim := { program := "ytekehogcbngjoaa", sum := "975151274e73c23d75ab9dec862090ccd0491aba90ae2a40f310020b671d7ec1", func := "sallyport/sallyportlaw1.WordParts", spec := "wordParts", apart := false }
def WordPartsSaid : Prop := wordPartsRow.holds Try.pinned (OpenSpec.ofChange wordPartsSpec)

/-- ITS FALSE NEIGHBOUR: 'it returns false'. Refute it at one input. -/
def wordPartsWrong : ChangeSpec := { name := "wordParts", fn := fun _ => fun
  | [d1, d2, d3] => { results := [.lit (.bool false)], args := [d1, d2, d3] }
  | _ => none }
def WordPartsWrongFalsely : Prop := wordPartsRow.holds Try.pinned (OpenSpec.ofChange wordPartsWrong)

/-- 'sallyportlaw1.WordHeld': WHATEVER THE INPUT: true; the input reads as it did. -/
def wordHeldSpec : ChangeSpec := { name := "wordHeld", fn := fun _ => fun
  | [d1, d2, d3, d4] => { results := [.lit (.bool true)], args := [d1, d2, d3, d4] }
  | _ => none }
def wordHeldRow : OpenClaim := { program := "ytekehogcbngjoaa", sum := "975151274e73c23d75ab9dec862090ccd0491aba90ae2a40f310020b671d7ec1", func := "sallyport/sallyportlaw1.WordHeld", spec := "wordHeld", apart := false }
def WordHeldSaid : Prop := wordHeldRow.holds Try.pinned (OpenSpec.ofChange wordHeldSpec)

/-- ITS FALSE NEIGHBOUR: 'it returns false'. Refute it at one input. -/
def wordHeldWrong : ChangeSpec := { name := "wordHeld", fn := fun _ => fun
  | [d1, d2, d3, d4] => { results := [.lit (.bool false)], args := [d1, d2, d3, d4] }
  | _ => none }
def WordHeldWrongFalsely : Prop := wordHeldRow.holds Try.pinned (OpenSpec.ofChange wordHeldWrong)

/-- 'sallyportlaw1.WordOrder': WHATEVER THE INPUT: true; the input reads as it did. -/
def wordOrderSpec : ChangeSpec := { name := "wordOrder", fn := fun _ => fun
  | [d1, d2, d3] => { results := [.lit (.bool true)], args := [d1, d2, d3] }
  | _ => none }
def wordOrderRow : OpenClaim := { program := "ytekehogcbngjoaa", sum := "975151274e73c23d75ab9dec862090ccd0491aba90ae2a40f310020b671d7ec1", func := "sallyport/sallyportlaw1.WordOrder", spec := "wordOrder", apart := false }
def WordOrderSaid : Prop := wordOrderRow.holds Try.pinned (OpenSpec.ofChange wordOrderSpec)

/-- ITS FALSE NEIGHBOUR: 'it returns false'. Refute it at one input. -/
def wordOrderWrong : ChangeSpec := { name := "wordOrder", fn := fun _ => fun
  | [d1, d2, d3] => { results := [.lit (.bool false)], args := [d1, d2, d3] }
  | _ => none }
def WordOrderWrongFalsely : Prop := wordOrderRow.holds Try.pinned (OpenSpec.ofChange wordOrderWrong)

/-- 'sallyportlaw6.MemLays': WHATEVER THE INPUT: true; the input reads as it did. -/
def memLaysSpec : ChangeSpec := { name := "memLays", fn := fun _ => fun
  | [d1, d2] => { results := [.lit (.bool true)], args := [d1, d2] }
  | _ => none }
def memLaysRow : OpenClaim := { program := "ytekehogcbngjoaa", sum := "975151274e73c23d75ab9dec862090ccd0491aba90ae2a40f310020b671d7ec1", func := "sallyport/sallyportlaw6.MemLays", spec := "memLays", apart := false }
def MemLaysSaid : Prop := memLaysRow.holds Try.pinned (OpenSpec.ofChange memLaysSpec)

/-- ITS FALSE NEIGHBOUR: 'it returns false'. Refute it at one input. -/
def memLaysWrong : ChangeSpec := { name := "memLays", fn := fun _ => fun
  | [d1, d2] => { results := [.lit (.bool false)], args := [d1, d2] }
  | _ => none }
def MemLaysWrongFalsely : Prop := memLaysRow.holds Try.pinned (OpenSpec.ofChange memLaysWrong)

/-- 'sallyportlaw6.MemCodes': WHATEVER THE INPUT: true; the input reads as it did. -/
def memCodesSpec : ChangeSpec := { name := "memCodes", fn := fun _ => fun
  | [d1, d2] => { results := [.lit (.bool true)], args := [d1, d2] }
  | _ => none }
def memCodesRow : OpenClaim := { program := "ytekehogcbngjoaa", sum := "975151274e73c23d75ab9dec862090ccd0491aba90ae2a40f310020b671d7ec1", func := "sallyport/sallyportlaw6.MemCodes", spec := "memCodes", apart := false }
def MemCodesSaid : Prop := memCodesRow.holds Try.pinned (OpenSpec.ofChange memCodesSpec)

/-- ITS FALSE NEIGHBOUR: 'it returns false'. Refute it at one input. -/
def memCodesWrong : ChangeSpec := { name := "memCodes", fn := fun _ => fun
  | [d1, d2] => { results := [.lit (.bool false)], args := [d1, d2] }
  | _ => none }
def MemCodesWrongFalsely : Prop := memCodesRow.holds Try.pinned (OpenSpec.ofChange memCodesWrong)

/-- 'sallyportlaw6.MemPlays': WHATEVER THE INPUT: true; the input reads as it did. -/
def memPlaysSpec : ChangeSpec := { name := "memPlays", fn := fun _ => fun
  | [d1, d2] => { results := [.lit (.bool true)], args := [d1, d2] }
  | _ => none }
def memPlaysRow : OpenClaim := { program := "ytekehogcbngjoaa", sum := "975151274e73c23d75ab9dec862090ccd0491aba90ae2a40f310020b671d7ec1", func := "sallyport/sallyportlaw6.MemPlays", spec := "memPlays", apart := false }
def MemPlaysSaid : Prop := memPlaysRow.holds Try.pinned (OpenSpec.ofChange memPlaysSpec)

/-- ITS FALSE NEIGHBOUR: 'it returns false'. Refute it at one input. -/
def memPlaysWrong : ChangeSpec := { name := "memPlays", fn := fun _ => fun
  | [d1, d2] => { results := [.lit (.bool false)], args := [d1, d2] }
  | _ => none }
def MemPlaysWrongFalsely : Prop := memPlaysRow.holds Try.pinned (OpenSpec.ofChange memPlaysWrong)

/-- 'sallyportlaw6.MemBack': WHATEVER THE INPUT: true; the input reads as it did. -/
def memBackSpec : ChangeSpec := { name := "memBack", fn := fun _ => fun
  | [d1, d2, d3] => { results := [.lit (.bool true)], args := [d1, d2, d3] }
  | _ => none }
def memBackRow : OpenClaim := { program := "ytekehogcbngjoaa", sum := "975151274e73c23d75ab9dec862090ccd0491aba90ae2a40f310020b671d7ec1", func := "sallyport/sallyportlaw6.MemBack", spec := "memBack", apart := false }
def MemBackSaid : Prop := memBackRow.holds Try.pinned (OpenSpec.ofChange memBackSpec)

/-- ITS FALSE NEIGHBOUR: 'it returns false'. Refute it at one input. -/
def memBackWrong : ChangeSpec := { name := "memBack", fn := fun _ => fun
  | [d1, d2, d3] => { results := [.lit (.bool false)], args := [d1, d2, d3] }
  | _ => none }
def MemBackWrongFalsely : Prop := memBackRow.holds Try.pinned (OpenSpec.ofChange memBackWrong)

/- THE SECOND FORM. 'bulk': how many values and letters a reading holds, each counted each time it is reached (what is shared counts as often as it is met; a slice's spare places count too). A statement '..UptoSaid' is the law's where the arguments, and the package variables that the reading takes, are together of bulk at most 1048576: NARROWER than '..Said'. Prove '..Said' where nothing that the law and all that it calls make is longer than what came in: it says more and counts as full. Else prove '..UptoSaid'. A law counts once. -/
mutual
def uptoBulk {H : Type} : DataW H → Nat
  | .lit (.string bytes) => bytes.length + 1
  | .lit _ => 1
  | .nil => 1
  | .ptr d => uptoBulk d + 1
  | .slice elems spare => uptoBulkAll elems + uptoBulkAll spare + 1
  | .agg parts => uptoBulkAll parts + 1
  | .iface _ d => uptoBulk d + 1
  | .map entries => uptoBulkEntries entries + 1
  | .held _ => 1
def uptoBulkAll {H : Type} : List (DataW H) → Nat
  | [] => 0
  | d :: r => uptoBulk d + uptoBulkAll r
def uptoBulkEntries {H : Type} : List (Lit × DataW H) → Nat
  | [] => 0
  | x :: r => uptoBulkEntry x + uptoBulkEntries r
def uptoBulkEntry {H : Type} : Lit × DataW H → Nat
  | (.string bytes, d) => bytes.length + uptoBulk d + 1
  | (_, d) => uptoBulk d + 1
 end
def uptoSmall : (H : Type) → List (DataW H) → Bool := fun _ ds => decide (uptoBulkAll ds ≤ 1048576)
def OpenSpec.upto (s : _root_.Go.ChangeSpec) : _root_.Go.OpenSpec := { _root_.Go.OpenSpec.ofChange s with cond := some uptoSmall }

/-- 'sallyportlaw1.WordTells', WHERE WHAT IT READS IS OF BULK AT MOST 1048576: true; the input reads as it did. -/
def wordTellsUptoRow : OpenClaim := { program := "ytekehogcbngjoaa", sum := "975151274e73c23d75ab9dec862090ccd0491aba90ae2a40f310020b671d7ec1", func := "sallyport/sallyportlaw1.WordTells", spec := "wordTells", apart := false, narrowed := true }
def WordTellsUptoSaid : Prop := wordTellsUptoRow.holds Try.pinned (OpenSpec.upto wordTellsSpec)

/-- 'sallyportlaw1.WordBack', WHERE WHAT IT READS IS OF BULK AT MOST 1048576: true; the input reads as it did. -/
def wordBackUptoRow : OpenClaim := { program := "ytekehogcbngjoaa", sum := "975151274e73c23d75ab9dec862090ccd0491aba90ae2a40f310020b671d7ec1", func := "sallyport/sallyportlaw1.WordBack", spec := "wordBack", apart := false, narrowed := true }
def WordBackUptoSaid : Prop := wordBackUptoRow.holds Try.pinned (OpenSpec.upto wordBackSpec)

/-- 'sallyportlaw1.WordSigns', WHERE WHAT IT READS IS OF BULK AT MOST 1048576: true; the input reads as it did. -/
def wordSignsUptoRow : OpenClaim := { program := "ytekehogcbngjoaa", sum := "975151274e73c23d75ab9dec862090ccd0491aba90ae2a40f310020b671d7ec1", func := "sallyport/sallyportlaw1.WordSigns", spec := "wordSigns", apart := false, narrowed := true }
def WordSignsUptoSaid : Prop := wordSignsUptoRow.holds Try.pinned (OpenSpec.upto wordSignsSpec)

/-- 'sallyportlaw1.WordParts', WHERE WHAT IT READS IS OF BULK AT MOST 1048576: true; the input reads as it did. -/
def wordPartsUptoRow : OpenClaim := { program := "ytekehogcbngjoaa", sum := "975151274e73c23d75ab9dec862090ccd0491aba90ae2a40f310020b671d7ec1", func := "sallyport/sallyportlaw1.WordParts", spec := "wordParts", apart := false, narrowed := true }
def WordPartsUptoSaid : Prop := wordPartsUptoRow.holds Try.pinned (OpenSpec.upto wordPartsSpec)

/-- 'sallyportlaw1.WordHeld', WHERE WHAT IT READS IS OF BULK AT MOST 1048576: true; the input reads as it did. -/
def wordHeldUptoRow : OpenClaim := { program := "ytekehogcbngjoaa", sum := "975151274e73c23d75ab9dec862090ccd0491aba90ae2a40f310020b671d7ec1", func := "sallyport/sallyportlaw1.WordHeld", spec := "wordHeld", apart := false, narrowed := true }
def WordHeldUptoSaid : Prop := wordHeldUptoRow.holds Try.pinned (OpenSpec.upto wordHeldSpec)

/-- 'sallyportlaw1.WordOrder', WHERE WHAT IT READS IS OF BULK AT MOST 1048576: true; the input reads as it did. -/
def wordOrderUptoRow : OpenClaim := { program := "ytekehogcbngjoaa", sum := "975151274e73c23d75ab9dec862090ccd0491aba90ae2a40f310020b671d7ec1", func := "sallyport/sallyportlaw1.WordOrder", spec := "wordOrder", apart := false, narrowed := true }
def WordOrderUptoSaid : Prop := wordOrderUptoRow.holds Try.pinned (OpenSpec.upto wordOrderSpec)

/-- 'sallyportlaw6.MemLays', WHERE WHAT IT READS IS OF BULK AT MOST 1048576: true; the input reads as it did. -/
def memLaysUptoRow : OpenClaim := { program := "ytekehogcbngjoaa", sum := "975151274e73c23d75ab9dec862090ccd0491aba90ae2a40f310020b671d7ec1", func := "sallyport/sallyportlaw6.MemLays", spec := "memLays", apart := false, narrowed := true }
def MemLaysUptoSaid : Prop := memLaysUptoRow.holds Try.pinned (OpenSpec.upto memLaysSpec)

/-- 'sallyportlaw6.MemCodes', WHERE WHAT IT READS IS OF BULK AT MOST 1048576: true; the input reads as it did. -/
def memCodesUptoRow : OpenClaim := { program := "ytekehogcbngjoaa", sum := "975151274e73c23d75ab9dec862090ccd0491aba90ae2a40f310020b671d7ec1", func := "sallyport/sallyportlaw6.MemCodes", spec := "memCodes", apart := false, narrowed := true }
def MemCodesUptoSaid : Prop := memCodesUptoRow.holds Try.pinned (OpenSpec.upto memCodesSpec)

/-- 'sallyportlaw6.MemPlays', WHERE WHAT IT READS IS OF BULK AT MOST 1048576: true; the input reads as it did. -/
def memPlaysUptoRow : OpenClaim := { program := "ytekehogcbngjoaa", sum := "975151274e73c23d75ab9dec862090ccd0491aba90ae2a40f310020b671d7ec1", func := "sallyport/sallyportlaw6.MemPlays", spec := "memPlays", apart := false, narrowed := true }
def MemPlaysUptoSaid : Prop := memPlaysUptoRow.holds Try.pinned (OpenSpec.upto memPlaysSpec)

/-- 'sallyportlaw6.MemBack', WHERE WHAT IT READS IS OF BULK AT MOST 1048576: true; the input reads as it did. -/
def memBackUptoRow : OpenClaim := { program := "ytekehogcbngjoaa", sum := "975151274e73c23d75ab9dec862090ccd0491aba90ae2a40f310020b671d7ec1", func := "sallyport/sallyportlaw6.MemBack", spec := "memBack", apart := false, narrowed := true }
def MemBackUptoSaid : Prop := memBackUptoRow.holds Try.pinned (OpenSpec.upto memBackSpec)

end Rows
end Go.Proofs.Ytekehogcbngjoaa
