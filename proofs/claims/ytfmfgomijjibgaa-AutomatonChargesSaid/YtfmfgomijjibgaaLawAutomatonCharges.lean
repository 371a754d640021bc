/- The law AutomatonCharges returns true at every input, and each argument reads behind the call as it read before. -/
import Derived.Test.YtfmfgomijjibgaaRows
import Derived.Test.YtfmfgomijjibgaaPlainC
namespace Go.Proofs.Ytfmfgomijjibgaa.automatonCharges
open Go.Proofs.Ytfmfgomijjibgaa.Abs Go.Proofs.Ytfmfgomijjibgaa.Abs.T
theorem own : ownKnob Try.prog.godebug = none := by kernel_rfl
theorem laid : laidOutB Try.prog = true := by kernel_rfl
set_option maxRecDepth 100000 in
theorem lifted (os : Os) (started : os.Started) (H : Type) (enc : TypeId × Value → H) :
    ReturnsInHanded {} Try.checked os 5 .any (Rows.automatonChargesSpec.pre6 enc Try.prog Try.f5 Rows.automatonChargesRow.domain false) (Rows.automatonChargesSpec.post enc Try.prog Try.f5 false true false false) :=
  law_lifted (C := Try.checked) (g := 5) (fn := Try.f5) (s := Rows.automatonChargesSpec) (slots := (gridmarketlaw24_AutomatonCharges.F 0).din.slots) (run := fun N => (gridmarketlaw24_AutomatonCharges.F N).run) (fun N => gridmarketlaw24_AutomatonCharges.ok N) (plainAutomatonCharges) own laid (by kernel_rfl) Try.func5 (by kernel_rfl) (by kernel_rfl) (by decide) rfl (by kernel_rfl) rfl
    (fun H ds h => match ds, h with | [_, _], _ => rfl) os started H enc
    (ChangeSpec.witness6 (enc := enc) (C := Try.checked) false ⟨#[], #[.agg #[.string ByteArray.empty, .int .i64 0, .int .i64 0, .int .i64 0, .slice none 0 0, .int .i64 0, .int .i64 0, .int .i64 0, .int .i64 0, .int .i64 0, .int .i64 0, .int .i64 0, .int .i64 0, .int .i64 0, .int .i64 0, .int .i64 0, .int .i64 0, .int .i64 0, .slice none 0 0, .int .i64 0, .int .i64 0, .int .i64 0], .slice none 0 0], []⟩ 60 (by kernel_rfl) (by kernel_rfl) (by kernel_rfl) (by kernel_rfl))
theorem over : Rows.automatonChargesRow.holds Try.pinned (OpenSpec.ofChange Rows.automatonChargesSpec) :=
  OpenClaim.holds_of_wide 5 Try.f5 rfl rfl rfl rfl rfl rfl rfl ⟨rfl, rfl, rfl, rfl, rfl⟩ rfl rfl rfl rfl rfl (by kernel_rfl) Try.func5 (by kernel_rfl)
    (of_decide_eq_true (by kernel_rfl)) (by unfold Func.isWrapper; first | (rw [if_pos (by decide +kernel)]; kernel_rfl) | (rw [if_neg (by decide +kernel)]; exact ⟨rfl, rfl⟩))
    (fun os started H enc _ => lifted os started H enc)
theorem proved : Rows.AutomatonChargesSaid := over
#print axioms proved
end Go.Proofs.Ytfmfgomijjibgaa.automatonCharges
