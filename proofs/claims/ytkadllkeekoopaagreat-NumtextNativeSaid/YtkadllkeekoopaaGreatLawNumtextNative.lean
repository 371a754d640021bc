/- The law NumtextNative returns true at every input, and each argument reads behind the call as it read before. -/
import Derived.Test.YtkadllkeekoopaaGreatRows
import Derived.Test.YtkadllkeekoopaaGreatPlainC
namespace Go.Proofs.YtkadllkeekoopaaGreat.numtextNative
open Go.Proofs.YtkadllkeekoopaaGreat.Abs Go.Proofs.YtkadllkeekoopaaGreat.Abs.T
theorem own : ownKnob Tryz.prog.godebug = none := by kernel_rfl
theorem laid : laidOutB Tryz.prog = true := by kernel_rfl
set_option maxRecDepth 100000 in
theorem lifted (os : Os) (started : os.Started) (H : Type) (enc : TypeId × Value → H) :
    ReturnsInHanded {} Tryz.checked os 7 .any (Rows.numtextNativeSpec.pre6 enc Tryz.prog Tryz.f7 Rows.numtextNativeRow.domain false) (Rows.numtextNativeSpec.post enc Tryz.prog Tryz.f7 false true false false) :=
  law_lifted (C := Tryz.checked) (g := 7) (fn := Tryz.f7) (s := Rows.numtextNativeSpec) (slots := (gridmarketlaw04_NumtextNative.F 0).din.slots) (run := fun N => (gridmarketlaw04_NumtextNative.F N).run) (fun N => gridmarketlaw04_NumtextNative.ok N) (plainNumtextNative) own laid (by kernel_rfl) Tryz.func7 (by kernel_rfl) (by kernel_rfl) (by decide) rfl (by kernel_rfl) rfl
    (fun H ds h => match ds, h with | [_], _ => rfl) os started H enc
    (ChangeSpec.witness6 (enc := enc) (C := Tryz.checked) false ⟨#[], #[.int .i64 0], []⟩ 60 (by kernel_rfl) (by kernel_rfl) (by kernel_rfl) (by kernel_rfl))
theorem over : Rows.numtextNativeRow.holds Tryz.pinned (OpenSpec.ofChange Rows.numtextNativeSpec) :=
  OpenClaim.holds_of_wide 7 Tryz.f7 rfl rfl rfl rfl rfl rfl rfl ⟨rfl, rfl, rfl, rfl, rfl⟩ rfl rfl rfl rfl rfl (by kernel_rfl) Tryz.func7 (by kernel_rfl)
    (of_decide_eq_true (by kernel_rfl)) (by unfold Func.isWrapper; first | (rw [if_pos (by decide +kernel)]; kernel_rfl) | (rw [if_neg (by decide +kernel)]; exact ⟨rfl, rfl⟩))
    (fun os started H enc _ => lifted os started H enc)
theorem proved : Rows.NumtextNativeSaid := over
#print axioms proved
end Go.Proofs.YtkadllkeekoopaaGreat.numtextNative
