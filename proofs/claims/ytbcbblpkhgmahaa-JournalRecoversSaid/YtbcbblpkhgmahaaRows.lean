/-
  No cell of these rows narrows 'for every input' (looked for: loops, veiled, ifaces, maps, wideKeys, modest, calm, conditions, laid).
  DERIVED. THE GIVEN ROWS OF THIS SEAT. 7 by the template 'for every input the law returns true; each argument reads behind the call as it read before'; 0 by the template 'total and deterministic' (their statements: YtbcbblpkhgmahaaTotals.lean).
  GIVEN WITH THE SEED: the statements are not yours to turn. If you find one false, say at which input.
  Laid BY PROGRAM, IN A SANDBOX (cutbox-rows.mjs): the forced cells as the released guide's own fill.sh prints them over the translation 025f14ccbe50e2b2… (all of the seat's roots in one cut). By AI agents, Wed Nov 11 2026. No macro, syntax, notation, axiom, sorry.
-/
import Derived.Test.YtbcbblpkhgmahaaChecked
import GoSem.Claim
import GoSem.ClaimJoined
import GoSem.ClaimMapViews
import Derived.JoinedTies
import Derived.KernelRfl
namespace Go.Proofs.Ytbcbblpkhgmahaa
/- THE CELL 'sum', in the pinned program and in every row, IS THE sha256 OF THE DUMP (.gsa) THAT YtbcbblpkhgmahaaProg.lean LOADS. Nothing in Lean hashes anything: it is a label: what it is worth is what the hold of that sum in a sandbox is worth. -/
noncomputable def Try.pinned : Pinned := { name := "ytbcbblpkhgmahaa", sum := "025f14ccbe50e2b2bfc3f1d306b0e2b6e6ae3ecda37a9a43028327465967aebc", checked := Try.checked }
namespace Rows
def none {H : Type} : Left H := { results := [], args := [] }

/-- 'gridmarketlaw44.JournalChecksum': WHATEVER THE INPUT: true; the input reads as it did. -/
def journalChecksumSpec : ChangeSpec := { name := "journalChecksum", fn := fun _ => fun
  | [d] => { results := [.lit (.bool true)], args := [d] }
  | _ => none }
def journalChecksumRow : OpenClaim := { program := "ytbcbblpkhgmahaa", sum := "025f14ccbe50e2b2bfc3f1d306b0e2b6e6ae3ecda37a9a43028327465967aebc", func := "gridmarket/gridmarketlaw44.JournalChecksum", spec := "journalChecksum", apart := false }
def JournalChecksumSaid : Prop := journalChecksumRow.holds Try.pinned (OpenSpec.ofChange journalChecksumSpec)

/-- ITS FALSE NEIGHBOUR: 'it returns false'. Refute it at one input. -/
def journalChecksumWrong : ChangeSpec := { name := "journalChecksum", fn := fun _ => fun
  | [d] => { results := [.lit (.bool false)], args := [d] }
  | _ => none }
def JournalChecksumWrongFalsely : Prop := journalChecksumRow.holds Try.pinned (OpenSpec.ofChange journalChecksumWrong)

/-- 'gridmarketlaw44.JournalEncodes': WHATEVER THE INPUT: true; the input reads as it did. -/
def journalEncodesSpec : ChangeSpec := { name := "journalEncodes", fn := fun _ => fun
  | [d1, d2, d3] => { results := [.lit (.bool true)], args := [d1, d2, d3] }
  | _ => none }
def journalEncodesRow : OpenClaim := { program := "ytbcbblpkhgmahaa", sum := "025f14ccbe50e2b2bfc3f1d306b0e2b6e6ae3ecda37a9a43028327465967aebc", func := "gridmarket/gridmarketlaw44.JournalEncodes", spec := "journalEncodes", apart := false }
def JournalEncodesSaid : Prop := journalEncodesRow.holds Try.pinned (OpenSpec.ofChange journalEncodesSpec)

/-- ITS FALSE NEIGHBOUR: 'it returns false'. Refute it at one input. -/
def journalEncodesWrong : ChangeSpec := { name := "journalEncodes", fn := fun _ => fun
  | [d1, d2, d3] => { results := [.lit (.bool false)], args := [d1, d2, d3] }
  | _ => none }
def JournalEncodesWrongFalsely : Prop := journalEncodesRow.holds Try.pinned (OpenSpec.ofChange journalEncodesWrong)

/-- 'gridmarketlaw44.JournalBursts': WHATEVER THE INPUT: true; the input reads as it did. -/
def journalBurstsSpec : ChangeSpec := { name := "journalBursts", fn := fun _ => fun
  | [d1, d2, d3] => { results := [.lit (.bool true)], args := [d1, d2, d3] }
  | _ => none }
def journalBurstsRow : OpenClaim := { program := "ytbcbblpkhgmahaa", sum := "025f14ccbe50e2b2bfc3f1d306b0e2b6e6ae3ecda37a9a43028327465967aebc", func := "gridmarket/gridmarketlaw44.JournalBursts", spec := "journalBursts", apart := false }
def JournalBurstsSaid : Prop := journalBurstsRow.holds Try.pinned (OpenSpec.ofChange journalBurstsSpec)

/-- ITS FALSE NEIGHBOUR: 'it returns false'. Refute it at one input. -/
def journalBurstsWrong : ChangeSpec := { name := "journalBursts", fn := fun _ => fun
  | [d1, d2, d3] => { results := [.lit (.bool false)], args := [d1, d2, d3] }
  | _ => none }
def JournalBurstsWrongFalsely : Prop := journalBurstsRow.holds Try.pinned (OpenSpec.ofChange journalBurstsWrong)

/-- 'gridmarketlaw44.JournalRecovers': WHATEVER THE INPUT: true; the input reads as it did. -/
def journalRecoversSpec : ChangeSpec := { name := "journalRecovers", fn := fun _ => fun
  | [d1, d2, d3, d4, d5, d6] => { results := [.lit (.bool true)], args := [d1, d2, d3, d4, d5, d6] }
  | _ => none }
def journalRecoversRow : OpenClaim := { program := "ytbcbblpkhgmahaa", sum := "025f14ccbe50e2b2bfc3f1d306b0e2b6e6ae3ecda37a9a43028327465967aebc", func := "gridmarket/gridmarketlaw44.JournalRecovers", spec := "journalRecovers", apart := false }
def JournalRecoversSaid : Prop := journalRecoversRow.holds Try.pinned (OpenSpec.ofChange journalRecoversSpec)

/-- ITS FALSE NEIGHBOUR: 'it returns false'. Refute it at one input. -/
def journalRecoversWrong : ChangeSpec := { name := "journalRecovers", fn := fun _ => fun
  | [d1, d2, d3, d4, d5, d6] => { results := [.lit (.bool false)], args := [d1, d2, d3, d4, d5, d6] }
  | _ => none }
def JournalRecoversWrongFalsely : Prop := journalRecoversRow.holds Try.pinned (OpenSpec.ofChange journalRecoversWrong)

/-- 'gridmarketlaw44.JournalKeeps': WHATEVER THE INPUT: true; the input reads as it did. -/
def journalKeepsSpec : ChangeSpec := { name := "journalKeeps", fn := fun _ => fun
  | [d1, d2] => { results := [.lit (.bool true)], args := [d1, d2] }
  | _ => none }
def journalKeepsRow : OpenClaim := { program := "ytbcbblpkhgmahaa", sum := "025f14ccbe50e2b2bfc3f1d306b0e2b6e6ae3ecda37a9a43028327465967aebc", func := "gridmarket/gridmarketlaw44.JournalKeeps", spec := "journalKeeps", apart := false }
def JournalKeepsSaid : Prop := journalKeepsRow.holds Try.pinned (OpenSpec.ofChange journalKeepsSpec)

/-- ITS FALSE NEIGHBOUR: 'it returns false'. Refute it at one input. -/
def journalKeepsWrong : ChangeSpec := { name := "journalKeeps", fn := fun _ => fun
  | [d1, d2] => { results := [.lit (.bool false)], args := [d1, d2] }
  | _ => none }
def JournalKeepsWrongFalsely : Prop := journalKeepsRow.holds Try.pinned (OpenSpec.ofChange journalKeepsWrong)

/-- 'gridmarketlaw44.JournalTears': WHATEVER THE INPUT: true; the input reads as it did. -/
def journalTearsSpec : ChangeSpec := { name := "journalTears", fn := fun _ => fun
  | [d1, d2, d3] => { results := [.lit (.bool true)], args := [d1, d2, d3] }
  | _ => none }
def journalTearsRow : OpenClaim := { program := "ytbcbblpkhgmahaa", sum := "025f14ccbe50e2b2bfc3f1d306b0e2b6e6ae3ecda37a9a43028327465967aebc", func := "gridmarket/gridmarketlaw44.JournalTears", spec := "journalTears", apart := false }
def JournalTearsSaid : Prop := journalTearsRow.holds Try.pinned (OpenSpec.ofChange journalTearsSpec)

/-- ITS FALSE NEIGHBOUR: 'it returns false'. Refute it at one input. -/
def journalTearsWrong : ChangeSpec := { name := "journalTears", fn := fun _ => fun
  | [d1, d2, d3] => { results := [.lit (.bool false)], args := [d1, d2, d3] }
  | _ => none }
def JournalTearsWrongFalsely : Prop := journalTearsRow.holds Try.pinned (OpenSpec.ofChange journalTearsWrong)

/-- 'gridmarketlaw44.JournalFull': WHATEVER THE INPUT: true; the input reads as it did. -/
def journalFullSpec : ChangeSpec := { name := "journalFull", fn := fun _ => fun
  | [d1, d2] => { results := [.lit (.bool true)], args := [d1, d2] }
  | _ => none }
def journalFullRow : OpenClaim := { program := "ytbcbblpkhgmahaa", sum := "025f14ccbe50e2b2bfc3f1d306b0e2b6e6ae3ecda37a9a43028327465967aebc", func := "gridmarket/gridmarketlaw44.JournalFull", spec := "journalFull", apart := false }
def JournalFullSaid : Prop := journalFullRow.holds Try.pinned (OpenSpec.ofChange journalFullSpec)

/-- ITS FALSE NEIGHBOUR: 'it returns false'. Refute it at one input. -/
def journalFullWrong : ChangeSpec := { name := "journalFull", fn := fun _ => fun
  | [d1, d2] => { results := [.lit (.bool false)], args := [d1, d2] }
  | _ => none }
def JournalFullWrongFalsely : Prop := journalFullRow.holds Try.pinned (OpenSpec.ofChange journalFullWrong)

/- THE SECOND FORM. 'bulk': how many values and letters a reading holds, each counted each time it is reached (what is shared counts as often as it is met; a slice's spare places count too). A statement '..UptoSaid' is the law's where the arguments, and the package variables that the reading takes, are together of bulk at most 1048576: NARROWER than '..Said'. Prove '..Said' where nothing that the law and all that it calls make is longer than what came in: it says more and counts as full. Else prove '..UptoSaid'. A law counts once. -/
mutual
def uptoBulk {H : Type} : DataW H → Nat
  | .lit (.string bytes) => bytes.length + 1
  | .lit _ => 1
  | .nil => 1
  | .ptr d => uptoBulk d + 1
  | .slice elems spare => uptoBulkAll elems + uptoBulkAll spare + 1
  | .agg parts => uptoBulkAll parts + 1
  | .iface _ d => uptoBulk d + 1
  | .map entries => uptoBulkEntries entries + 1
  | .held _ => 1
def uptoBulkAll {H : Type} : List (DataW H) → Nat
  | [] => 0
  | d :: r => uptoBulk d + uptoBulkAll r
def uptoBulkEntries {H : Type} : List (Lit × DataW H) → Nat
  | [] => 0
  | x :: r => uptoBulkEntry x + uptoBulkEntries r
def uptoBulkEntry {H : Type} : Lit × DataW H → Nat
  | (.string bytes, d) => bytes.length + uptoBulk d + 1
  | (_, d) => uptoBulk d + 1
 end
def uptoSmall : (H : Type) → List (DataW H) → Bool := fun _ ds => decide (uptoBulkAll ds ≤ 1048576)
def OpenSpec.upto (s : _root_.Go.ChangeSpec) : _root_.Go.OpenSpec := { _root_.Go.OpenSpec.ofChange s with cond := some uptoSmall }

/-- 'gridmarketlaw44.JournalChecksum', WHERE WHAT IT READS IS OF BULK AT MOST 1048576: true; the input reads as it did. -/
def journalChecksumUptoRow : OpenClaim := { program := "ytbcbblpkhgmahaa", sum := "025f14ccbe50e2b2bfc3f1d306b0e2b6e6ae3ecda37a9a43028327465967aebc", func := "gridmarket/gridmarketlaw44.JournalChecksum", spec := "journalChecksum", apart := false, narrowed := true }
def JournalChecksumUptoSaid : Prop := journalChecksumUptoRow.holds Try.pinned (OpenSpec.upto journalChecksumSpec)

/-- 'gridmarketlaw44.JournalEncodes', WHERE WHAT IT READS IS OF BULK AT MOST 1048576: true; the input reads as it did. -/
def journalEncodesUptoRow : OpenClaim := { program := "ytbcbblpkhgmahaa", sum := "025f14ccbe50e2b2bfc3f1d306b0e2b6e6ae3ecda37a9a43028327465967aebc", func := "gridmarket/gridmarketlaw44.JournalEncodes", spec := "journalEncodes", apart := false, narrowed := true }
def JournalEncodesUptoSaid : Prop := journalEncodesUptoRow.holds Try.pinned (OpenSpec.upto journalEncodesSpec)

/-- 'gridmarketlaw44.JournalBursts', WHERE WHAT IT READS IS OF BULK AT MOST 1048576: true; the input reads as it did. -/
def journalBurstsUptoRow : OpenClaim := { program := "ytbcbblpkhgmahaa", sum := "025f14ccbe50e2b2bfc3f1d306b0e2b6e6ae3ecda37a9a43028327465967aebc", func := "gridmarket/gridmarketlaw44.JournalBursts", spec := "journalBursts", apart := false, narrowed := true }
def JournalBurstsUptoSaid : Prop := journalBurstsUptoRow.holds Try.pinned (OpenSpec.upto journalBurstsSpec)

/-- 'gridmarketlaw44.JournalRecovers', WHERE WHAT IT READS IS OF BULK AT MOST 1048576: true; the input reads as it did. -/
def journalRecoversUptoRow : OpenClaim := { program := "ytbcbblpkhgmahaa", sum := "025f14ccbe50e2b2bfc3f1d306b0e2b6e6ae3ecda37a9a43028327465967aebc", func := "gridmarket/gridmarketlaw44.JournalRecovers", spec := "journalRecovers", apart := false, narrowed := true }
def JournalRecoversUptoSaid : Prop := journalRecoversUptoRow.holds Try.pinned (OpenSpec.upto journalRecoversSpec)

/-- 'gridmarketlaw44.JournalKeeps', WHERE WHAT IT READS IS OF BULK AT MOST 1048576: true; the input reads as it did. -/
def journalKeepsUptoRow : OpenClaim := { program := "ytbcbblpkhgmahaa", sum := "025f14ccbe50e2b2bfc3f1d306b0e2b6e6ae3ecda37a9a43028327465967aebc", func := "gridmarket/gridmarketlaw44.JournalKeeps", spec := "journalKeeps", apart := false, narrowed := true }
def JournalKeepsUptoSaid : Prop := journalKeepsUptoRow.holds Try.pinned (OpenSpec.upto journalKeepsSpec)

/-- 'gridmarketlaw44.JournalTears', WHERE WHAT IT READS IS OF BULK AT MOST 1048576: true; the input reads as it did. -/
def journalTearsUptoRow : OpenClaim := { program := "ytbcbblpkhgmahaa", sum := "025f14ccbe50e2b2bfc3f1d306b0e2b6e6ae3ecda37a9a43028327465967aebc", func := "gridmarket/gridmarketlaw44.JournalTears", spec := "journalTears", apart := false, narrowed := true }
def JournalTearsUptoSaid : Prop := journalTearsUptoRow.holds Try.pinned (OpenSpec.upto journalTearsSpec)

/-- 'gridmarketlaw44.JournalFull', WHERE WHAT IT READS IS OF BULK AT MOST 1048576: true; the input reads as it did. -/
def journalFullUptoRow : OpenClaim := { program := "ytbcbblpkhgmahaa", sum := "025f14ccbe50e2b2bfc3f1d306b0e2b6e6ae3ecda37a9a43028327465967aebc", func := "gridmarket/gridmarketlaw44.JournalFull", spec := "journalFull", apart := false, narrowed := true }
def JournalFullUptoSaid : Prop := journalFullUptoRow.holds Try.pinned (OpenSpec.upto journalFullSpec)

end Rows
end Go.Proofs.Ytbcbblpkhgmahaa
