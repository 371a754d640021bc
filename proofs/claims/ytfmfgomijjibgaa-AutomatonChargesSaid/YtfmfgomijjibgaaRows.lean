/-
  No cell of these rows narrows 'for every input' (looked for: loops, veiled, ifaces, maps, wideKeys, modest, calm, conditions, laid).
  DERIVED. THE GIVEN ROWS OF THIS SEAT. 5 by the template 'for every input the law returns true; each argument reads behind the call as it read before'; 0 by the template 'total and deterministic' (their statements: YtfmfgomijjibgaaTotals.lean).
  GIVEN WITH THE SEED: the statements are not yours to turn. If you find one false, say at which input.
  Laid BY PROGRAM, IN A SANDBOX (cutbox-rows.mjs): the forced cells as the released guide's own fill.sh prints them over the translation 39cd06df2f2c6c84… (all of the seat's roots in one cut). By AI agents, Wed Nov 11 2026. No macro, syntax, notation, axiom, sorry.
-/
import Derived.Test.YtfmfgomijjibgaaChecked
import GoSem.Claim
import GoSem.ClaimJoined
import GoSem.ClaimMapViews
import Derived.JoinedTies
import Derived.KernelRfl
namespace Go.Proofs.Ytfmfgomijjibgaa
/- THE CELL 'sum', in the pinned program and in every row, IS THE sha256 OF THE DUMP (.gsa) THAT YtfmfgomijjibgaaProg.lean LOADS. Nothing in Lean hashes anything: it is a label: what it is worth is what the hold of that sum in a sandbox is worth. -/
noncomputable def Try.pinned : Pinned := { name := "ytfmfgomijjibgaa", sum := "39cd06df2f2c6c84e503fe590b3928e29b1b560027ba6ff7977f4a3267dbb623", checked := Try.checked }
namespace Rows
def none {H : Type} : Left H := { results := [], args := [] }

/-- 'gridmarketlaw24.AutomatonNext': WHATEVER THE INPUT: true; the input reads as it did. -/
def automatonNextSpec : ChangeSpec := { name := "automatonNext", fn := fun _ => fun
  | [d1, d2, d3, d4] => { results := [.lit (.bool true)], args := [d1, d2, d3, d4] }
  | _ => none }
def automatonNextRow : OpenClaim := { program := "ytfmfgomijjibgaa", sum := "39cd06df2f2c6c84e503fe590b3928e29b1b560027ba6ff7977f4a3267dbb623", func := "gridmarket/gridmarketlaw24.AutomatonNext", spec := "automatonNext", plainKeys := false, apart := false }
def AutomatonNextSaid : Prop := automatonNextRow.holds Try.pinned (OpenSpec.ofChange automatonNextSpec)

/-- ITS FALSE NEIGHBOUR: 'it returns false'. Refute it at one input. -/
def automatonNextWrong : ChangeSpec := { name := "automatonNext", fn := fun _ => fun
  | [d1, d2, d3, d4] => { results := [.lit (.bool false)], args := [d1, d2, d3, d4] }
  | _ => none }
def AutomatonNextWrongFalsely : Prop := automatonNextRow.holds Try.pinned (OpenSpec.ofChange automatonNextWrong)

/-- 'gridmarketlaw24.AutomatonTimes': WHATEVER THE INPUT: true; the input reads as it did. -/
def automatonTimesSpec : ChangeSpec := { name := "automatonTimes", fn := fun _ => fun
  | [d1, d2] => { results := [.lit (.bool true)], args := [d1, d2] }
  | _ => none }
def automatonTimesRow : OpenClaim := { program := "ytfmfgomijjibgaa", sum := "39cd06df2f2c6c84e503fe590b3928e29b1b560027ba6ff7977f4a3267dbb623", func := "gridmarket/gridmarketlaw24.AutomatonTimes", spec := "automatonTimes", plainKeys := false, apart := false }
def AutomatonTimesSaid : Prop := automatonTimesRow.holds Try.pinned (OpenSpec.ofChange automatonTimesSpec)

/-- ITS FALSE NEIGHBOUR: 'it returns false'. Refute it at one input. -/
def automatonTimesWrong : ChangeSpec := { name := "automatonTimes", fn := fun _ => fun
  | [d1, d2] => { results := [.lit (.bool false)], args := [d1, d2] }
  | _ => none }
def AutomatonTimesWrongFalsely : Prop := automatonTimesRow.holds Try.pinned (OpenSpec.ofChange automatonTimesWrong)

/-- 'gridmarketlaw24.AutomatonCharges': WHATEVER THE INPUT: true; the input reads as it did. -/
def automatonChargesSpec : ChangeSpec := { name := "automatonCharges", fn := fun _ => fun
  | [d1, d2] => { results := [.lit (.bool true)], args := [d1, d2] }
  | _ => none }
def automatonChargesRow : OpenClaim := { program := "ytfmfgomijjibgaa", sum := "39cd06df2f2c6c84e503fe590b3928e29b1b560027ba6ff7977f4a3267dbb623", func := "gridmarket/gridmarketlaw24.AutomatonCharges", spec := "automatonCharges", plainKeys := false, apart := false }
def AutomatonChargesSaid : Prop := automatonChargesRow.holds Try.pinned (OpenSpec.ofChange automatonChargesSpec)

/-- ITS FALSE NEIGHBOUR: 'it returns false'. Refute it at one input. -/
def automatonChargesWrong : ChangeSpec := { name := "automatonCharges", fn := fun _ => fun
  | [d1, d2] => { results := [.lit (.bool false)], args := [d1, d2] }
  | _ => none }
def AutomatonChargesWrongFalsely : Prop := automatonChargesRow.holds Try.pinned (OpenSpec.ofChange automatonChargesWrong)

/-- 'gridmarketlaw24.AutomatonStates': WHATEVER THE INPUT: true; the input reads as it did. -/
def automatonStatesSpec : ChangeSpec := { name := "automatonStates", fn := fun _ => fun
  | [d1, d2, d3] => { results := [.lit (.bool true)], args := [d1, d2, d3] }
  | _ => none }
def automatonStatesRow : OpenClaim := { program := "ytfmfgomijjibgaa", sum := "39cd06df2f2c6c84e503fe590b3928e29b1b560027ba6ff7977f4a3267dbb623", func := "gridmarket/gridmarketlaw24.AutomatonStates", spec := "automatonStates", plainKeys := false, apart := false }
def AutomatonStatesSaid : Prop := automatonStatesRow.holds Try.pinned (OpenSpec.ofChange automatonStatesSpec)

/-- ITS FALSE NEIGHBOUR: 'it returns false'. Refute it at one input. -/
def automatonStatesWrong : ChangeSpec := { name := "automatonStates", fn := fun _ => fun
  | [d1, d2, d3] => { results := [.lit (.bool false)], args := [d1, d2, d3] }
  | _ => none }
def AutomatonStatesWrongFalsely : Prop := automatonStatesRow.holds Try.pinned (OpenSpec.ofChange automatonStatesWrong)

/-- 'gridmarketlaw24.AutomatonInside': WHATEVER THE INPUT: true; the input reads as it did. -/
def automatonInsideSpec : ChangeSpec := { name := "automatonInside", fn := fun _ => fun
  | [d1, d2, d3] => { results := [.lit (.bool true)], args := [d1, d2, d3] }
  | _ => none }
def automatonInsideRow : OpenClaim := { program := "ytfmfgomijjibgaa", sum := "39cd06df2f2c6c84e503fe590b3928e29b1b560027ba6ff7977f4a3267dbb623", func := "gridmarket/gridmarketlaw24.AutomatonInside", spec := "automatonInside", plainKeys := false, apart := false }
def AutomatonInsideSaid : Prop := automatonInsideRow.holds Try.pinned (OpenSpec.ofChange automatonInsideSpec)

/-- ITS FALSE NEIGHBOUR: 'it returns false'. Refute it at one input. -/
def automatonInsideWrong : ChangeSpec := { name := "automatonInside", fn := fun _ => fun
  | [d1, d2, d3] => { results := [.lit (.bool false)], args := [d1, d2, d3] }
  | _ => none }
def AutomatonInsideWrongFalsely : Prop := automatonInsideRow.holds Try.pinned (OpenSpec.ofChange automatonInsideWrong)

/- THE SECOND FORM. 'bulk': how many values and letters a reading holds, each counted each time it is reached (what is shared counts as often as it is met; a slice's spare places count too). A statement '..UptoSaid' is the law's where the arguments, and the package variables that the reading takes, are together of bulk at most 1048576: NARROWER than '..Said'. Prove '..Said' where nothing that the law and all that it calls make is longer than what came in: it says more and counts as full. Else prove '..UptoSaid'. A law counts once. -/
mutual
def uptoBulk {H : Type} : DataW H → Nat
  | .lit (.string bytes) => bytes.length + 1
  | .lit _ => 1
  | .nil => 1
  | .ptr d => uptoBulk d + 1
  | .slice elems spare => uptoBulkAll elems + uptoBulkAll spare + 1
  | .agg parts => uptoBulkAll parts + 1
  | .iface _ d => uptoBulk d + 1
  | .map entries => uptoBulkEntries entries + 1
  | .held _ => 1
def uptoBulkAll {H : Type} : List (DataW H) → Nat
  | [] => 0
  | d :: r => uptoBulk d + uptoBulkAll r
def uptoBulkEntries {H : Type} : List (Lit × DataW H) → Nat
  | [] => 0
  | x :: r => uptoBulkEntry x + uptoBulkEntries r
def uptoBulkEntry {H : Type} : Lit × DataW H → Nat
  | (.string bytes, d) => bytes.length + uptoBulk d + 1
  | (_, d) => uptoBulk d + 1
 end
def uptoSmall : (H : Type) → List (DataW H) → Bool := fun _ ds => decide (uptoBulkAll ds ≤ 1048576)
def OpenSpec.upto (s : _root_.Go.ChangeSpec) : _root_.Go.OpenSpec := { _root_.Go.OpenSpec.ofChange s with cond := some uptoSmall }

/-- 'gridmarketlaw24.AutomatonNext', WHERE WHAT IT READS IS OF BULK AT MOST 1048576: true; the input reads as it did. -/
def automatonNextUptoRow : OpenClaim := { program := "ytfmfgomijjibgaa", sum := "39cd06df2f2c6c84e503fe590b3928e29b1b560027ba6ff7977f4a3267dbb623", func := "gridmarket/gridmarketlaw24.AutomatonNext", spec := "automatonNext", plainKeys := false, apart := false, narrowed := true }
def AutomatonNextUptoSaid : Prop := automatonNextUptoRow.holds Try.pinned (OpenSpec.upto automatonNextSpec)

/-- 'gridmarketlaw24.AutomatonTimes', WHERE WHAT IT READS IS OF BULK AT MOST 1048576: true; the input reads as it did. -/
def automatonTimesUptoRow : OpenClaim := { program := "ytfmfgomijjibgaa", sum := "39cd06df2f2c6c84e503fe590b3928e29b1b560027ba6ff7977f4a3267dbb623", func := "gridmarket/gridmarketlaw24.AutomatonTimes", spec := "automatonTimes", plainKeys := false, apart := false, narrowed := true }
def AutomatonTimesUptoSaid : Prop := automatonTimesUptoRow.holds Try.pinned (OpenSpec.upto automatonTimesSpec)

/-- 'gridmarketlaw24.AutomatonCharges', WHERE WHAT IT READS IS OF BULK AT MOST 1048576: true; the input reads as it did. -/
def automatonChargesUptoRow : OpenClaim := { program := "ytfmfgomijjibgaa", sum := "39cd06df2f2c6c84e503fe590b3928e29b1b560027ba6ff7977f4a3267dbb623", func := "gridmarket/gridmarketlaw24.AutomatonCharges", spec := "automatonCharges", plainKeys := false, apart := false, narrowed := true }
def AutomatonChargesUptoSaid : Prop := automatonChargesUptoRow.holds Try.pinned (OpenSpec.upto automatonChargesSpec)

/-- 'gridmarketlaw24.AutomatonStates', WHERE WHAT IT READS IS OF BULK AT MOST 1048576: true; the input reads as it did. -/
def automatonStatesUptoRow : OpenClaim := { program := "ytfmfgomijjibgaa", sum := "39cd06df2f2c6c84e503fe590b3928e29b1b560027ba6ff7977f4a3267dbb623", func := "gridmarket/gridmarketlaw24.AutomatonStates", spec := "automatonStates", plainKeys := false, apart := false, narrowed := true }
def AutomatonStatesUptoSaid : Prop := automatonStatesUptoRow.holds Try.pinned (OpenSpec.upto automatonStatesSpec)

/-- 'gridmarketlaw24.AutomatonInside', WHERE WHAT IT READS IS OF BULK AT MOST 1048576: true; the input reads as it did. -/
def automatonInsideUptoRow : OpenClaim := { program := "ytfmfgomijjibgaa", sum := "39cd06df2f2c6c84e503fe590b3928e29b1b560027ba6ff7977f4a3267dbb623", func := "gridmarket/gridmarketlaw24.AutomatonInside", spec := "automatonInside", plainKeys := false, apart := false, narrowed := true }
def AutomatonInsideUptoSaid : Prop := automatonInsideUptoRow.holds Try.pinned (OpenSpec.upto automatonInsideSpec)

end Rows
end Go.Proofs.Ytfmfgomijjibgaa
