/- The law JournalRecovers returns true at every input, and each argument reads behind the call as it read before. -/
import Derived.Test.YtbcbblpkhgmahaaRows
import Derived.Test.YtbcbblpkhgmahaaPlainC
namespace Go.Proofs.Ytbcbblpkhgmahaa.journalRecovers
open Go.Proofs.Ytbcbblpkhgmahaa.Abs Go.Proofs.Ytbcbblpkhgmahaa.Abs.T
theorem own : ownKnob Try.prog.godebug = none := by kernel_rfl
theorem laid : laidOutB Try.prog = true := by kernel_rfl
set_option maxRecDepth 100000 in
theorem lifted (os : Os) (started : os.Started) (H : Type) (enc : TypeId × Value → H) :
    ReturnsInHanded {} Try.checked os 6 .any (Rows.journalRecoversSpec.pre6 enc Try.prog Try.f6 Rows.journalRecoversRow.domain false) (Rows.journalRecoversSpec.post enc Try.prog Try.f6 false true false false) :=
  law_lifted (C := Try.checked) (g := 6) (fn := Try.f6) (s := Rows.journalRecoversSpec) (slots := (gridmarketlaw44_JournalRecovers.F 0).din.slots) (run := fun N => (gridmarketlaw44_JournalRecovers.F N).run) (fun N => gridmarketlaw44_JournalRecovers.ok N) (plainJournalRecovers) own laid (by kernel_rfl) Try.func6 (by kernel_rfl) (by kernel_rfl) (by decide) rfl (by kernel_rfl) rfl
    (fun H ds h => match ds, h with | [_, _, _, _, _, _], _ => rfl) os started H enc
    (ChangeSpec.witness6 (enc := enc) (C := Try.checked) false ⟨#[], #[.slice none 0 0, .slice none 0 0, .slice none 0 0, .slice none 0 0, .int .i64 0, .slice none 0 0], []⟩ 60 (by kernel_rfl) (by kernel_rfl) (by kernel_rfl) (by kernel_rfl))
theorem over : Rows.journalRecoversRow.holds Try.pinned (OpenSpec.ofChange Rows.journalRecoversSpec) :=
  OpenClaim.holds_of_wide 6 Try.f6 rfl rfl rfl rfl rfl rfl rfl ⟨rfl, rfl, rfl, rfl, rfl⟩ rfl rfl rfl rfl rfl (by kernel_rfl) Try.func6 (by kernel_rfl)
    (of_decide_eq_true (by kernel_rfl)) (by unfold Func.isWrapper; first | (rw [if_pos (by decide +kernel)]; kernel_rfl) | (rw [if_neg (by decide +kernel)]; exact ⟨rfl, rfl⟩))
    (fun os started H enc _ => lifted os started H enc)
theorem proved : Rows.JournalRecoversSaid := over
#print axioms proved
end Go.Proofs.Ytbcbblpkhgmahaa.journalRecovers
