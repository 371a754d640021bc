/- The law JournalBursts returns true at every input, and each argument reads behind the call as it read before. -/
import Derived.Test.YtbcbblpkhgmahaaRows
import Derived.Test.YtbcbblpkhgmahaaPlainC
namespace Go.Proofs.Ytbcbblpkhgmahaa.journalBursts
open Go.Proofs.Ytbcbblpkhgmahaa.Abs Go.Proofs.Ytbcbblpkhgmahaa.Abs.T
theorem own : ownKnob Try.prog.godebug = none := by kernel_rfl
theorem laid : laidOutB Try.prog = true := by kernel_rfl
set_option maxRecDepth 100000 in
theorem lifted (os : Os) (started : os.Started) (H : Type) (enc : TypeId × Value → H) :
    ReturnsInHanded {} Try.checked os 5 .any (Rows.journalBurstsSpec.pre6 enc Try.prog Try.f5 Rows.journalBurstsRow.domain false) (Rows.journalBurstsSpec.post enc Try.prog Try.f5 false true false false) :=
  law_lifted (C := Try.checked) (g := 5) (fn := Try.f5) (s := Rows.journalBurstsSpec) (slots := (gridmarketlaw44_JournalBursts.F 0).din.slots) (run := fun N => (gridmarketlaw44_JournalBursts.F N).run) (fun N => gridmarketlaw44_JournalBursts.ok N) (plainJournalBursts) own laid (by kernel_rfl) Try.func5 (by kernel_rfl) (by kernel_rfl) (by decide) rfl (by kernel_rfl) rfl
    (fun H ds h => match ds, h with | [_, _, _], _ => rfl) os started H enc
    (ChangeSpec.witness6 (enc := enc) (C := Try.checked) false ⟨#[], #[.slice none 0 0, .int .i64 0, .agg #[.int .u8 0, .int .u8 0, .int .u8 0, .int .u8 0]], []⟩ 60 (by kernel_rfl) (by kernel_rfl) (by kernel_rfl) (by kernel_rfl))
theorem over : Rows.journalBurstsRow.holds Try.pinned (OpenSpec.ofChange Rows.journalBurstsSpec) :=
  OpenClaim.holds_of_wide 5 Try.f5 rfl rfl rfl rfl rfl rfl rfl ⟨rfl, rfl, rfl, rfl, rfl⟩ rfl rfl rfl rfl rfl (by kernel_rfl) Try.func5 (by kernel_rfl)
    (of_decide_eq_true (by kernel_rfl)) (by unfold Func.isWrapper; first | (rw [if_pos (by decide +kernel)]; kernel_rfl) | (rw [if_neg (by decide +kernel)]; exact ⟨rfl, rfl⟩))
    (fun os started H enc _ => lifted os started H enc)
theorem proved : Rows.JournalBurstsSaid := over
#print axioms proved
end Go.Proofs.Ytbcbblpkhgmahaa.journalBursts
