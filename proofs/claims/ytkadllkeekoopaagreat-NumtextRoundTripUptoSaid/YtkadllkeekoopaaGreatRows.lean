/-
  No cell of these rows narrows 'for every input' (looked for: loops, veiled, ifaces, maps, wideKeys, modest, calm, conditions, laid).
  DERIVED. THE GIVEN ROWS OF THIS SEAT. 5 by the template 'for every input the law returns true; each argument reads behind the call as it read before'; 0 by the template 'total and deterministic' (their statements: YtkadllkeekoopaaGreatTotals.lean).
  GIVEN WITH THE SEED: the statements are not yours to turn. If you find one false, say at which input.
  Laid BY PROGRAM, IN A SANDBOX (cutbox-rows.mjs): the forced cells as the released guide's own fill.sh prints them over the translation 13fa6ac57a9ec48f… (all of the seat's roots in one cut). By AI agents, Wed Nov 11 2026. No macro, syntax, notation, axiom, sorry.
-/
import Derived.Test.YtkadllkeekoopaaGreatChecked
import GoSem.Claim
import GoSem.ClaimJoined
import GoSem.ClaimMapViews
import Derived.JoinedTies
import Derived.KernelRfl
namespace Go.Proofs.YtkadllkeekoopaaGreat
/- THE CELL 'sum', in the pinned program and in every row, IS THE sha256 OF THE DUMP (.gsa) THAT YtkadllkeekoopaaGreatProg.lean LOADS. Nothing in Lean hashes anything: it is a label: what it is worth is what the hold of that sum in a sandbox is worth. -/
noncomputable def Tryz.pinned : Pinned := { name := "ytkadllkeekoopaagreat", sum := "13fa6ac57a9ec48f63e802652afde95342f8f5e4c28f70379f4e31226fcd646a", checked := Tryz.checked }
namespace Rows
def none {H : Type} : Left H := { results := [], args := [] }

/-- 'gridmarketlaw04.NumtextFormats': WHATEVER THE INPUT: true; the input reads as it did. -/
def numtextFormatsSpec : ChangeSpec := { name := "numtextFormats", fn := fun _ => fun
  | [d1, d2] => { results := [.lit (.bool true)], args := [d1, d2] }
  | _ => none }
def numtextFormatsRow : OpenClaim := { program := "ytkadllkeekoopaagreat", sum := "13fa6ac57a9ec48f63e802652afde95342f8f5e4c28f70379f4e31226fcd646a", func := "gridmarket/gridmarketlaw04.NumtextFormats", spec := "numtextFormats", inPlace := ["internal/bytealg.IndexByteString", "internal/bytealg.IndexString", "internal/abi.NoEscape", "internal/bytealg.MakeNoZero"], named := ["internal/bytealg.MaxLen"], apart := false }
def NumtextFormatsSaid : Prop := numtextFormatsRow.holds Tryz.pinned (OpenSpec.ofChange numtextFormatsSpec)

/-- ITS FALSE NEIGHBOUR: 'it returns false'. Refute it at one input. -/
def numtextFormatsWrong : ChangeSpec := { name := "numtextFormats", fn := fun _ => fun
  | [d1, d2] => { results := [.lit (.bool false)], args := [d1, d2] }
  | _ => none }
def NumtextFormatsWrongFalsely : Prop := numtextFormatsRow.holds Tryz.pinned (OpenSpec.ofChange numtextFormatsWrong)

/-- 'gridmarketlaw04.NumtextDecimals': WHATEVER THE INPUT: true; the input reads as it did. -/
def numtextDecimalsSpec : ChangeSpec := { name := "numtextDecimals", fn := fun _ => fun
  | [d1, d2, d3] => { results := [.lit (.bool true)], args := [d1, d2, d3] }
  | _ => none }
def numtextDecimalsRow : OpenClaim := { program := "ytkadllkeekoopaagreat", sum := "13fa6ac57a9ec48f63e802652afde95342f8f5e4c28f70379f4e31226fcd646a", func := "gridmarket/gridmarketlaw04.NumtextDecimals", spec := "numtextDecimals", inPlace := ["internal/abi.NoEscape", "internal/bytealg.MakeNoZero", "internal/bytealg.IndexByteString", "internal/bytealg.IndexString"], named := ["internal/bytealg.MaxLen"], apart := false }
def NumtextDecimalsSaid : Prop := numtextDecimalsRow.holds Tryz.pinned (OpenSpec.ofChange numtextDecimalsSpec)

/-- ITS FALSE NEIGHBOUR: 'it returns false'. Refute it at one input. -/
def numtextDecimalsWrong : ChangeSpec := { name := "numtextDecimals", fn := fun _ => fun
  | [d1, d2, d3] => { results := [.lit (.bool false)], args := [d1, d2, d3] }
  | _ => none }
def NumtextDecimalsWrongFalsely : Prop := numtextDecimalsRow.holds Tryz.pinned (OpenSpec.ofChange numtextDecimalsWrong)

/-- 'gridmarketlaw04.NumtextRoundTrip': WHATEVER THE INPUT: true; the input reads as it did. -/
def numtextRoundTripSpec : ChangeSpec := { name := "numtextRoundTrip", fn := fun _ => fun
  | [d1, d2] => { results := [.lit (.bool true)], args := [d1, d2] }
  | _ => none }
def numtextRoundTripRow : OpenClaim := { program := "ytkadllkeekoopaagreat", sum := "13fa6ac57a9ec48f63e802652afde95342f8f5e4c28f70379f4e31226fcd646a", func := "gridmarket/gridmarketlaw04.NumtextRoundTrip", spec := "numtextRoundTrip", inPlace := ["internal/bytealg.IndexByteString", "internal/bytealg.IndexString", "internal/abi.NoEscape", "internal/bytealg.MakeNoZero"], named := ["internal/bytealg.MaxLen"], apart := false }
def NumtextRoundTripSaid : Prop := numtextRoundTripRow.holds Tryz.pinned (OpenSpec.ofChange numtextRoundTripSpec)

/-- ITS FALSE NEIGHBOUR: 'it returns false'. Refute it at one input. -/
def numtextRoundTripWrong : ChangeSpec := { name := "numtextRoundTrip", fn := fun _ => fun
  | [d1, d2] => { results := [.lit (.bool false)], args := [d1, d2] }
  | _ => none }
def NumtextRoundTripWrongFalsely : Prop := numtextRoundTripRow.holds Tryz.pinned (OpenSpec.ofChange numtextRoundTripWrong)

/-- 'gridmarketlaw04.NumtextExact': WHATEVER THE INPUT: true; the input reads as it did. -/
def numtextExactSpec : ChangeSpec := { name := "numtextExact", fn := fun _ => fun
  | [d] => { results := [.lit (.bool true)], args := [d] }
  | _ => none }
def numtextExactRow : OpenClaim := { program := "ytkadllkeekoopaagreat", sum := "13fa6ac57a9ec48f63e802652afde95342f8f5e4c28f70379f4e31226fcd646a", func := "gridmarket/gridmarketlaw04.NumtextExact", spec := "numtextExact", inPlace := ["internal/abi.NoEscape", "internal/bytealg.MakeNoZero", "internal/bytealg.IndexByteString", "internal/bytealg.IndexString"], named := ["internal/bytealg.MaxLen"], apart := false }
def NumtextExactSaid : Prop := numtextExactRow.holds Tryz.pinned (OpenSpec.ofChange numtextExactSpec)

/-- ITS FALSE NEIGHBOUR: 'it returns false'. Refute it at one input. -/
def numtextExactWrong : ChangeSpec := { name := "numtextExact", fn := fun _ => fun
  | [d] => { results := [.lit (.bool false)], args := [d] }
  | _ => none }
def NumtextExactWrongFalsely : Prop := numtextExactRow.holds Tryz.pinned (OpenSpec.ofChange numtextExactWrong)

/-- 'gridmarketlaw04.NumtextNative': WHATEVER THE INPUT: true; the input reads as it did. -/
def numtextNativeSpec : ChangeSpec := { name := "numtextNative", fn := fun _ => fun
  | [d] => { results := [.lit (.bool true)], args := [d] }
  | _ => none }
def numtextNativeRow : OpenClaim := { program := "ytkadllkeekoopaagreat", sum := "13fa6ac57a9ec48f63e802652afde95342f8f5e4c28f70379f4e31226fcd646a", func := "gridmarket/gridmarketlaw04.NumtextNative", spec := "numtextNative", inPlace := ["internal/bytealg.IndexByteString", "internal/bytealg.IndexString", "internal/abi.NoEscape", "internal/bytealg.MakeNoZero"], named := ["internal/bytealg.MaxLen"], apart := false }
def NumtextNativeSaid : Prop := numtextNativeRow.holds Tryz.pinned (OpenSpec.ofChange numtextNativeSpec)

/-- ITS FALSE NEIGHBOUR: 'it returns false'. Refute it at one input. -/
def numtextNativeWrong : ChangeSpec := { name := "numtextNative", fn := fun _ => fun
  | [d] => { results := [.lit (.bool false)], args := [d] }
  | _ => none }
def NumtextNativeWrongFalsely : Prop := numtextNativeRow.holds Tryz.pinned (OpenSpec.ofChange numtextNativeWrong)

/- THE SECOND FORM. 'bulk': how many values and letters a reading holds, each counted each time it is reached (what is shared counts as often as it is met; a slice's spare places count too). A statement '..UptoSaid' is the law's where the arguments, and the package variables that the reading takes, are together of bulk at most 1048576: NARROWER than '..Said'. Prove '..Said' where nothing that the law and all that it calls make is longer than what came in: it says more and counts as full. Else prove '..UptoSaid'. A law counts once. -/
mutual
def uptoBulk {H : Type} : DataW H → Nat
  | .lit (.string bytes) => bytes.length + 1
  | .lit _ => 1
  | .nil => 1
  | .ptr d => uptoBulk d + 1
  | .slice elems spare => uptoBulkAll elems + uptoBulkAll spare + 1
  | .agg parts => uptoBulkAll parts + 1
  | .iface _ d => uptoBulk d + 1
  | .map entries => uptoBulkEntries entries + 1
  | .held _ => 1
def uptoBulkAll {H : Type} : List (DataW H) → Nat
  | [] => 0
  | d :: r => uptoBulk d + uptoBulkAll r
def uptoBulkEntries {H : Type} : List (Lit × DataW H) → Nat
  | [] => 0
  | x :: r => uptoBulkEntry x + uptoBulkEntries r
def uptoBulkEntry {H : Type} : Lit × DataW H → Nat
  | (.string bytes, d) => bytes.length + uptoBulk d + 1
  | (_, d) => uptoBulk d + 1
 end
def uptoSmall : (H : Type) → List (DataW H) → Bool := fun _ ds => decide (uptoBulkAll ds ≤ 1048576)
def OpenSpec.upto (s : _root_.Go.ChangeSpec) : _root_.Go.OpenSpec := { _root_.Go.OpenSpec.ofChange s with cond := some uptoSmall }

/-- 'gridmarketlaw04.NumtextFormats', WHERE WHAT IT READS IS OF BULK AT MOST 1048576: true; the input reads as it did. -/
def numtextFormatsUptoRow : OpenClaim := { program := "ytkadllkeekoopaagreat", sum := "13fa6ac57a9ec48f63e802652afde95342f8f5e4c28f70379f4e31226fcd646a", func := "gridmarket/gridmarketlaw04.NumtextFormats", spec := "numtextFormats", inPlace := ["internal/bytealg.IndexByteString", "internal/bytealg.IndexString", "internal/abi.NoEscape", "internal/bytealg.MakeNoZero"], named := ["internal/bytealg.MaxLen"], apart := false, narrowed := true }
def NumtextFormatsUptoSaid : Prop := numtextFormatsUptoRow.holds Tryz.pinned (OpenSpec.upto numtextFormatsSpec)

/-- 'gridmarketlaw04.NumtextDecimals', WHERE WHAT IT READS IS OF BULK AT MOST 1048576: true; the input reads as it did. -/
def numtextDecimalsUptoRow : OpenClaim := { program := "ytkadllkeekoopaagreat", sum := "13fa6ac57a9ec48f63e802652afde95342f8f5e4c28f70379f4e31226fcd646a", func := "gridmarket/gridmarketlaw04.NumtextDecimals", spec := "numtextDecimals", inPlace := ["internal/abi.NoEscape", "internal/bytealg.MakeNoZero", "internal/bytealg.IndexByteString", "internal/bytealg.IndexString"], named := ["internal/bytealg.MaxLen"], apart := false, narrowed := true }
def NumtextDecimalsUptoSaid : Prop := numtextDecimalsUptoRow.holds Tryz.pinned (OpenSpec.upto numtextDecimalsSpec)

/-- 'gridmarketlaw04.NumtextRoundTrip', WHERE WHAT IT READS IS OF BULK AT MOST 1048576: true; the input reads as it did. -/
def numtextRoundTripUptoRow : OpenClaim := { program := "ytkadllkeekoopaagreat", sum := "13fa6ac57a9ec48f63e802652afde95342f8f5e4c28f70379f4e31226fcd646a", func := "gridmarket/gridmarketlaw04.NumtextRoundTrip", spec := "numtextRoundTrip", inPlace := ["internal/bytealg.IndexByteString", "internal/bytealg.IndexString", "internal/abi.NoEscape", "internal/bytealg.MakeNoZero"], named := ["internal/bytealg.MaxLen"], apart := false, narrowed := true }
def NumtextRoundTripUptoSaid : Prop := numtextRoundTripUptoRow.holds Tryz.pinned (OpenSpec.upto numtextRoundTripSpec)

/-- 'gridmarketlaw04.NumtextExact', WHERE WHAT IT READS IS OF BULK AT MOST 1048576: true; the input reads as it did. -/
def numtextExactUptoRow : OpenClaim := { program := "ytkadllkeekoopaagreat", sum := "13fa6ac57a9ec48f63e802652afde95342f8f5e4c28f70379f4e31226fcd646a", func := "gridmarket/gridmarketlaw04.NumtextExact", spec := "numtextExact", inPlace := ["internal/abi.NoEscape", "internal/bytealg.MakeNoZero", "internal/bytealg.IndexByteString", "internal/bytealg.IndexString"], named := ["internal/bytealg.MaxLen"], apart := false, narrowed := true }
def NumtextExactUptoSaid : Prop := numtextExactUptoRow.holds Tryz.pinned (OpenSpec.upto numtextExactSpec)

/-- 'gridmarketlaw04.NumtextNative', WHERE WHAT IT READS IS OF BULK AT MOST 1048576: true; the input reads as it did. -/
def numtextNativeUptoRow : OpenClaim := { program := "ytkadllkeekoopaagreat", sum := "13fa6ac57a9ec48f63e802652afde95342f8f5e4c28f70379f4e31226fcd646a", func := "gridmarket/gridmarketlaw04.NumtextNative", spec := "numtextNative", inPlace := ["internal/bytealg.IndexByteString", "internal/bytealg.IndexString", "internal/abi.NoEscape", "internal/bytealg.MakeNoZero"], named := ["internal/bytealg.MaxLen"], apart := false, narrowed := true }
def NumtextNativeUptoSaid : Prop := numtextNativeUptoRow.holds Tryz.pinned (OpenSpec.upto numtextNativeSpec)

end Rows
end Go.Proofs.YtkadllkeekoopaaGreat
