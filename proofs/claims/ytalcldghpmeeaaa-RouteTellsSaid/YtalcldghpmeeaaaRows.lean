/-
  No cell of these rows narrows 'for every input' (looked for: loops, veiled, ifaces, maps, wideKeys, modest, calm, conditions, laid).
  DERIVED. THE GIVEN ROWS OF THIS SEAT. 4 by the template 'for every input the law returns true; each argument reads behind the call as it read before'; 0 by the template 'total and deterministic' (their statements: YtalcldghpmeeaaaTotals.lean).
  GIVEN WITH THE SEED: the statements are not yours to turn. If you find one false, say at which input.
  Laid BY PROGRAM, IN A SANDBOX (cutbox-rows.mjs): the forced cells as the released guide's own fill.sh prints them over the translation beaab1bcd4d1e1dd… (all of the seat's roots in one cut). By AI agents, Wed Nov 11 2026. No macro, syntax, notation, axiom, sorry.
-/
import Derived.Test.YtalcldghpmeeaaaChecked
import GoSem.Claim
import GoSem.ClaimJoined
import GoSem.ClaimMapViews
import Derived.JoinedTies
import Derived.KernelRfl
namespace Go.Proofs.Ytalcldghpmeeaaa
/- THE CELL 'sum', in the pinned program and in every row, IS THE sha256 OF THE DUMP (.gsa) THAT YtalcldghpmeeaaaProg.lean LOADS. Nothing in Lean hashes anything: it is a label: what it is worth is what the hold of that sum in a sandbox is worth. -/
noncomputable def Try.pinned : Pinned := { name := "ytalcldghpmeeaaa", sum := "beaab1bcd4d1e1dd3951dacfa950c96825abf2d3ba418cb115912017d59ede5c", checked := Try.checked }
namespace Rows
def none {H : Type} : Left H := { results := [], args := [] }

/-- 'sallyportlaw15.RouteTells': WHATEVER THE INPUT: true; the input reads as it did. -/
def routeTellsSpec : ChangeSpec := { name := "routeTells", fn := fun _ => fun
  | [d1, d2, d3, d4] => { results := [.lit (.bool true)], args := [d1, d2, d3, d4] }
  | _ => none }
def routeTellsRow : OpenClaim := { program := "ytalcldghpmeeaaa", sum := "beaab1bcd4d1e1dd3951dacfa950c96825abf2d3ba418cb115912017d59ede5c", func := "sallyport/sallyportlaw15.RouteTells", spec := "routeTells", apart := false }
def RouteTellsSaid : Prop := routeTellsRow.holds Try.pinned (OpenSpec.ofChange routeTellsSpec)

/-- ITS FALSE NEIGHBOUR: 'it returns false'. Refute it at one input. -/
def routeTellsWrong : ChangeSpec := { name := "routeTells", fn := fun _ => fun
  | [d1, d2, d3, d4] => { results := [.lit (.bool false)], args := [d1, d2, d3, d4] }
  | _ => none }
def RouteTellsWrongFalsely : Prop := routeTellsRow.holds Try.pinned (OpenSpec.ofChange routeTellsWrong)

/-- 'sallyportlaw15.RouteUp': WHATEVER THE INPUT: true; the input reads as it did. -/
def routeUpSpec : ChangeSpec := { name := "routeUp", fn := fun _ => fun
  | [d1, d2, d3, d4] => { results := [.lit (.bool true)], args := [d1, d2, d3, d4] }
  | _ => none }
def routeUpRow : OpenClaim := { program := "ytalcldghpmeeaaa", sum := "beaab1bcd4d1e1dd3951dacfa950c96825abf2d3ba418cb115912017d59ede5c", func := "sallyport/sallyportlaw15.RouteUp", spec := "routeUp", apart := false }
def RouteUpSaid : Prop := routeUpRow.holds Try.pinned (OpenSpec.ofChange routeUpSpec)

/-- ITS FALSE NEIGHBOUR: 'it returns false'. Refute it at one input. -/
def routeUpWrong : ChangeSpec := { name := "routeUp", fn := fun _ => fun
  | [d1, d2, d3, d4] => { results := [.lit (.bool false)], args := [d1, d2, d3, d4] }
  | _ => none }
def RouteUpWrongFalsely : Prop := routeUpRow.holds Try.pinned (OpenSpec.ofChange routeUpWrong)

/-- 'sallyportlaw15.RouteQuiet': WHATEVER THE INPUT: true; the input reads as it did. -/
def routeQuietSpec : ChangeSpec := { name := "routeQuiet", fn := fun _ => fun
  | [d1, d2, d3] => { results := [.lit (.bool true)], args := [d1, d2, d3] }
  | _ => none }
def routeQuietRow : OpenClaim := { program := "ytalcldghpmeeaaa", sum := "beaab1bcd4d1e1dd3951dacfa950c96825abf2d3ba418cb115912017d59ede5c", func := "sallyport/sallyportlaw15.RouteQuiet", spec := "routeQuiet", apart := false }
def RouteQuietSaid : Prop := routeQuietRow.holds Try.pinned (OpenSpec.ofChange routeQuietSpec)

/-- ITS FALSE NEIGHBOUR: 'it returns false'. Refute it at one input. -/
def routeQuietWrong : ChangeSpec := { name := "routeQuiet", fn := fun _ => fun
  | [d1, d2, d3] => { results := [.lit (.bool false)], args := [d1, d2, d3] }
  | _ => none }
def RouteQuietWrongFalsely : Prop := routeQuietRow.holds Try.pinned (OpenSpec.ofChange routeQuietWrong)

/-- 'sallyportlaw15.RouteBits': WHATEVER THE INPUT: true; the input reads as it did. -/
def routeBitsSpec : ChangeSpec := { name := "routeBits", fn := fun _ => fun
  | [d1, d2, d3] => { results := [.lit (.bool true)], args := [d1, d2, d3] }
  | _ => none }
def routeBitsRow : OpenClaim := { program := "ytalcldghpmeeaaa", sum := "beaab1bcd4d1e1dd3951dacfa950c96825abf2d3ba418cb115912017d59ede5c", func := "sallyport/sallyportlaw15.RouteBits", spec := "routeBits", apart := false }
def RouteBitsSaid : Prop := routeBitsRow.holds Try.pinned (OpenSpec.ofChange routeBitsSpec)

/-- ITS FALSE NEIGHBOUR: 'it returns false'. Refute it at one input. -/
def routeBitsWrong : ChangeSpec := { name := "routeBits", fn := fun _ => fun
  | [d1, d2, d3] => { results := [.lit (.bool false)], args := [d1, d2, d3] }
  | _ => none }
def RouteBitsWrongFalsely : Prop := routeBitsRow.holds Try.pinned (OpenSpec.ofChange routeBitsWrong)

/- THE SECOND FORM. 'bulk': how many values and letters a reading holds, each counted each time it is reached (what is shared counts as often as it is met; a slice's spare places count too). A statement '..UptoSaid' is the law's where the arguments, and the package variables that the reading takes, are together of bulk at most 1048576: NARROWER than '..Said'. Prove '..Said' where nothing that the law and all that it calls make is longer than what came in: it says more and counts as full. Else prove '..UptoSaid'. A law counts once. -/
mutual
def uptoBulk {H : Type} : DataW H → Nat
  | .lit (.string bytes) => bytes.length + 1
  | .lit _ => 1
  | .nil => 1
  | .ptr d => uptoBulk d + 1
  | .slice elems spare => uptoBulkAll elems + uptoBulkAll spare + 1
  | .agg parts => uptoBulkAll parts + 1
  | .iface _ d => uptoBulk d + 1
  | .map entries => uptoBulkEntries entries + 1
  | .held _ => 1
def uptoBulkAll {H : Type} : List (DataW H) → Nat
  | [] => 0
  | d :: r => uptoBulk d + uptoBulkAll r
def uptoBulkEntries {H : Type} : List (Lit × DataW H) → Nat
  | [] => 0
  | x :: r => uptoBulkEntry x + uptoBulkEntries r
def uptoBulkEntry {H : Type} : Lit × DataW H → Nat
  | (.string bytes, d) => bytes.length + uptoBulk d + 1
  | (_, d) => uptoBulk d + 1
 end
def uptoSmall : (H : Type) → List (DataW H) → Bool := fun _ ds => decide (uptoBulkAll ds ≤ 1048576)
def OpenSpec.upto (s : _root_.Go.ChangeSpec) : _root_.Go.OpenSpec := { _root_.Go.OpenSpec.ofChange s with cond := some uptoSmall }

/-- 'sallyportlaw15.RouteTells', WHERE WHAT IT READS IS OF BULK AT MOST 1048576: true; the input reads as it did. -/
def routeTellsUptoRow : OpenClaim := { program := "ytalcldghpmeeaaa", sum := "beaab1bcd4d1e1dd3951dacfa950c96825abf2d3ba418cb115912017d59ede5c", func := "sallyport/sallyportlaw15.RouteTells", spec := "routeTells", apart := false, narrowed := true }
def RouteTellsUptoSaid : Prop := routeTellsUptoRow.holds Try.pinned (OpenSpec.upto routeTellsSpec)

/-- 'sallyportlaw15.RouteUp', WHERE WHAT IT READS IS OF BULK AT MOST 1048576: true; the input reads as it did. -/
def routeUpUptoRow : OpenClaim := { program := "ytalcldghpmeeaaa", sum := "beaab1bcd4d1e1dd3951dacfa950c96825abf2d3ba418cb115912017d59ede5c", func := "sallyport/sallyportlaw15.RouteUp", spec := "routeUp", apart := false, narrowed := true }
def RouteUpUptoSaid : Prop := routeUpUptoRow.holds Try.pinned (OpenSpec.upto routeUpSpec)

/-- 'sallyportlaw15.RouteQuiet', WHERE WHAT IT READS IS OF BULK AT MOST 1048576: true; the input reads as it did. -/
def routeQuietUptoRow : OpenClaim := { program := "ytalcldghpmeeaaa", sum := "beaab1bcd4d1e1dd3951dacfa950c96825abf2d3ba418cb115912017d59ede5c", func := "sallyport/sallyportlaw15.RouteQuiet", spec := "routeQuiet", apart := false, narrowed := true }
def RouteQuietUptoSaid : Prop := routeQuietUptoRow.holds Try.pinned (OpenSpec.upto routeQuietSpec)

/-- 'sallyportlaw15.RouteBits', WHERE WHAT IT READS IS OF BULK AT MOST 1048576: true; the input reads as it did. -/
def routeBitsUptoRow : OpenClaim := { program := "ytalcldghpmeeaaa", sum := "beaab1bcd4d1e1dd3951dacfa950c96825abf2d3ba418cb115912017d59ede5c", func := "sallyport/sallyportlaw15.RouteBits", spec := "routeBits", apart := false, narrowed := true }
def RouteBitsUptoSaid : Prop := routeBitsUptoRow.holds Try.pinned (OpenSpec.upto routeBitsSpec)

end Rows
end Go.Proofs.Ytalcldghpmeeaaa
