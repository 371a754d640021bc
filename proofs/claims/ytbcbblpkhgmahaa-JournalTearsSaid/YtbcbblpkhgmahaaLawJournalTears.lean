/- The law JournalTears returns true at every input, and each argument reads behind the call as it read before. -/
import Derived.Test.YtbcbblpkhgmahaaRows
import Derived.Test.YtbcbblpkhgmahaaPlainB
namespace Go.Proofs.Ytbcbblpkhgmahaa.journalTears
open Go.Proofs.Ytbcbblpkhgmahaa.Abs Go.Proofs.Ytbcbblpkhgmahaa.Abs.T
theorem own : ownKnob Try.prog.godebug = none := by kernel_rfl
theorem laid : laidOutB Try.prog = true := by kernel_rfl
set_option maxRecDepth 100000 in
theorem lifted (os : Os) (started : os.Started) (H : Type) (enc : TypeId × Value → H) :
    ReturnsInHanded {} Try.checked os 8 .any (Rows.journalTearsSpec.pre6 enc Try.prog Try.f8 Rows.journalTearsRow.domain false) (Rows.journalTearsSpec.post enc Try.prog Try.f8 false true false false) :=
  law_lifted (C := Try.checked) (g := 8) (fn := Try.f8) (s := Rows.journalTearsSpec) (slots := (gridmarketlaw44_JournalTears.F 0).din.slots) (run := fun N => (gridmarketlaw44_JournalTears.F N).run) (fun N => gridmarketlaw44_JournalTears.ok N) (plainJournalTears) own laid (by kernel_rfl) Try.func8 (by kernel_rfl) (by kernel_rfl) (by decide) rfl (by kernel_rfl) rfl
    (fun H ds h => match ds, h with | [_, _, _], _ => rfl) os started H enc
    (ChangeSpec.witness6 (enc := enc) (C := Try.checked) false ⟨#[], #[.slice none 0 0, .slice none 0 0, .int .i64 0], []⟩ 60 (by kernel_rfl) (by kernel_rfl) (by kernel_rfl) (by kernel_rfl))
theorem over : Rows.journalTearsRow.holds Try.pinned (OpenSpec.ofChange Rows.journalTearsSpec) :=
  OpenClaim.holds_of_wide 8 Try.f8 rfl rfl rfl rfl rfl rfl rfl ⟨rfl, rfl, rfl, rfl, rfl⟩ rfl rfl rfl rfl rfl (by kernel_rfl) Try.func8 (by kernel_rfl)
    (of_decide_eq_true (by kernel_rfl)) (by unfold Func.isWrapper; first | (rw [if_pos (by decide +kernel)]; kernel_rfl) | (rw [if_neg (by decide +kernel)]; exact ⟨rfl, rfl⟩))
    (fun os started H enc _ => lifted os started H enc)
theorem proved : Rows.JournalTearsSaid := over
#print axioms proved
end Go.Proofs.Ytbcbblpkhgmahaa.journalTears
