/- The law NumtextRoundTrip returns true at every input that is small enough, and each argument reads behind the call as it read before. -/
import Derived.Test.YtkadllkeekoopaaGreatRows
import Derived.Test.YtkadllkeekoopaaGreatPlainC
namespace Go.Proofs.YtkadllkeekoopaaGreat.numtextRoundTrip
open Go.Proofs.YtkadllkeekoopaaGreat.Abs Go.Proofs.YtkadllkeekoopaaGreat.Abs.T
theorem one_le {H : Type} (d : DataW H) : 1 ≤ Rows.uptoBulk d := by
  cases d with
  | lit l => cases l <;> simp [Rows.uptoBulk]
  | _ => simp [Rows.uptoBulk]
theorem length_le {H : Type} (l : List (DataW H)) : l.length ≤ Rows.uptoBulkAll l := by
  induction l with
  | nil => simp [Rows.uptoBulkAll]
  | cons x r ih => have := one_le x; simp only [Rows.uptoBulkAll, List.length_cons]; omega
mutual
theorem lens_le {H : Type} : ∀ (d : DataW H) (n : Nat), n ∈ lens d → n ≤ Rows.uptoBulk d
  | .lit l, n, h => by
    cases l with
    | string b =>
      simp only [lens, List.mem_singleton] at h
      simp only [Rows.uptoBulk]
      omega
    | _ => simp [lens] at h
  | .slice elems spare, n, h => by
    rw [lens, List.mem_cons] at h
    have h1 := length_le elems
    simp only [Rows.uptoBulk]
    rcases h with rfl | h
    · omega
    · have := lensAll_le elems n h
      omega
  | .agg parts, n, h => by
    rw [lens] at h
    have := lensAll_le parts n h
    simp only [Rows.uptoBulk]
    omega
  | .nil, n, h => by simp [lens] at h
  | .ptr _, n, h => by simp [lens] at h
  | .iface _ _, n, h => by simp [lens] at h
  | .map _, n, h => by simp [lens] at h
  | .held _, n, h => by simp [lens] at h
theorem lensAll_le {H : Type} : ∀ (ds : List (DataW H)) (n : Nat), n ∈ lensAll ds → n ≤ Rows.uptoBulkAll ds
  | [], n, h => by simp [lensAll] at h
  | d :: r, n, h => by
    rw [lensAll, List.mem_append] at h
    simp only [Rows.uptoBulkAll]
    rcases h with h | h
    · have := lens_le d n h
      omega
    · have := lensAll_le r n h
      omega
end
theorem small (H : Type) (ds : List (DataW H)) (h : Rows.uptoSmall H ds = true) : ∀ n ∈ lensAll ds, bnd (some 1048576) n := fun n hn => Nat.le_trans (lensAll_le ds n hn) (of_decide_eq_true h)
theorem read {α : Type} {o : Option α} {p : α → Bool} (h : (match o with | some x => p x | none => false) = true) : ∃ x, o = some x ∧ p x = true := by
  cases o with
  | none => cases h
  | some x => exact ⟨x, rfl, h⟩
theorem own : ownKnob Tryz.prog.godebug = none := by kernel_rfl
theorem laid : laidOutB Tryz.prog = true := by kernel_rfl
set_option maxRecDepth 100000 in
theorem lifted (os : Os) (started : os.Started) (H : Type) (enc : TypeId × Value → H) (F : Stop.Interp) :
    ReturnsInHanded {} Tryz.checked os 5 .any ((Rows.OpenSpec.upto Rows.numtextRoundTripSpec).pre6 enc Tryz.prog Tryz.f5 Rows.numtextRoundTripUptoRow.domain false) (((Rows.OpenSpec.upto Rows.numtextRoundTripSpec).at F).post enc Tryz.prog Tryz.f5 false true false false) := by
  obtain ⟨x, hx, hk⟩ := read (o := DataW.whole enc Tryz.prog (World.plainHolding Tryz.prog os ⟨#[], #[.agg #[.bool false, .slice none 0 0], .agg #[.bool false, .slice none 0 0, .slice none 0 0]], []⟩).memory Tryz.f5.params.toList (Rows.OpenSpec.upto Rows.numtextRoundTripSpec).vars false (#[.agg #[.bool false, .slice none 0 0], .agg #[.bool false, .slice none 0 0, .slice none 0 0]] : Array Value).toList 60) (p := fun x => Rows.uptoSmall H (x.1 ++ x.2.1)) (by kernel_rfl)
  exact law_lifted_cond (C := Tryz.checked) (g := 5) (fn := Tryz.f5) (s := Rows.numtextRoundTripSpec) (k := Rows.uptoSmall) (S := Rows.OpenSpec.upto Rows.numtextRoundTripSpec) rfl small F (slots := (gridmarketlaw04_NumtextRoundTrip.F 0).din.slots) (run := fun N => (gridmarketlaw04_NumtextRoundTrip.F N).run) (fun N => gridmarketlaw04_NumtextRoundTrip.ok N) (plainNumtextRoundTrip) own laid (by kernel_rfl) Tryz.func5 (by kernel_rfl) (by kernel_rfl) (by decide) rfl (by kernel_rfl) rfl
    (fun H ds h => match ds, h with | [_, _], _ => rfl) os started H enc
    (OpenSpec.witness (enc := enc) (C := Tryz.checked) (s := Rows.OpenSpec.upto Rows.numtextRoundTripSpec) (k := Rows.uptoSmall) rfl false ⟨#[], #[.agg #[.bool false, .slice none 0 0], .agg #[.bool false, .slice none 0 0, .slice none 0 0]], []⟩ 60 (by kernel_rfl) (by kernel_rfl) (by kernel_rfl) (x := x) hx rfl hk)
theorem over : Rows.numtextRoundTripUptoRow.holds Tryz.pinned (Rows.OpenSpec.upto Rows.numtextRoundTripSpec) :=
  OpenClaim.holds_of_cond 5 Tryz.f5 rfl rfl rfl rfl rfl rfl rfl ⟨rfl, rfl, rfl, rfl, rfl⟩ rfl rfl rfl rfl rfl (by kernel_rfl) Tryz.func5 (by kernel_rfl)
    (of_decide_eq_true (by kernel_rfl)) (by unfold Func.isWrapper; first | (rw [if_pos (by decide +kernel)]; kernel_rfl) | (rw [if_neg (by decide +kernel)]; exact ⟨rfl, rfl⟩))
    (fun os started H enc _ F => lifted os started H enc F)
theorem proved : Rows.NumtextRoundTripUptoSaid := over
#print axioms proved
end Go.Proofs.YtkadllkeekoopaaGreat.numtextRoundTrip
