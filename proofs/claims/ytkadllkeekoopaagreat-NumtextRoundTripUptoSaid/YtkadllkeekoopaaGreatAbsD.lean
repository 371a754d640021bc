import Derived.Orders
import Derived.ChangeArms
import Derived.OpenShut
import Derived.SizedLaws
import Derived.WideShapes
import Derived.ChangeOld
import Derived.Carry
import Derived.JoinedOf
import Derived.Handed
import Derived.RowKit
import Derived.KernelRfl
import Derived.Deep.Slices
import Derived.Deep.CondSized
import Derived.Test.YtkadllkeekoopaaGreatAbsC
set_option linter.unusedVariables false
set_option linter.unusedSimpArgs false
section
namespace Go.Proofs.YtkadllkeekoopaaGreat.Abs
open Go.RowKit

section
variable {ρ : Type} {G : Ctx} {r : ρ}
/-! ## The same operands, the same objects behind them -/
structure Like (o : Oper) (s s' : St) : Prop where
  ev : ∀ x ∈ o.op.operands, ev s' x = ev s x
  ids : ∀ id ∈ rdOf s o, get s'.T id = get s.T id
theorem opIds_mem {s : St} : ∀ {l : List Operand} {x : Operand} {v : V} {id : Nat}, x ∈ l → ev s x = some v → id ∈ vIds v → id ∈ opIds s l
  | y :: l, x, v, id, hx, hv, hi => by
    simp only [opIds]
    cases hx with
    | head => rw [hv]; exact List.mem_append_left _ hi
    | tail _ hx =>
      have := opIds_mem hx hv hi
      split
      · exact List.mem_append_right _ this
      · exact this
theorem Like.at {o : Oper} {s s' : St} (h : Like o s s') {x : Operand} {v : V} (hx : x ∈ o.op.operands) (hv : Go.Proofs.YtkadllkeekoopaaGreat.Abs.ev s x = some v) (hne : rdOf s o = opIds s o.op.operands.toList := by first | rfl | (unfold rdOf; simp only [*])) : ∀ id ∈ vIds v, get s'.T id = get s.T id := fun id hi => h.ids id (by rw [hne]; exact opIds_mem (by simpa using hx) hv hi)
theorem Like.evC {o : Oper} {s s' : St} (h : Like o s s') {x : Operand} (hx : x ∈ o.op.operands) : evC s' x = evC s x := by
  unfold Go.Proofs.YtkadllkeekoopaaGreat.Abs.evC
  rw [h.ev x hx]
theorem Like.evI {o : Oper} {s s' : St} (h : Like o s s') {x : Operand} (hx : x ∈ o.op.operands) : evI s' x = evI s x := by
  unfold Go.Proofs.YtkadllkeekoopaaGreat.Abs.evI
  rw [h.ev x hx]
theorem Like.evO {o : Oper} {s s' : St} (h : Like o s s') {x : Option Operand} (hx : ∀ y, x = some y → y ∈ o.op.operands) : evO s' x = evO s x := by
  cases x with
  | none => rfl
  | some y =>
    simp only [Go.Proofs.YtkadllkeekoopaaGreat.Abs.evO]
    rw [h.evI (hx y rfl)]
theorem Like.evAll {s s' : St} : ∀ {l : List Operand}, (∀ x ∈ l, Go.Proofs.YtkadllkeekoopaaGreat.Abs.ev s' x = Go.Proofs.YtkadllkeekoopaaGreat.Abs.ev s x) → evAll s' l = evAll s l
  | [], _ => rfl
  | x :: l, h => by
    simp only [Go.Proofs.YtkadllkeekoopaaGreat.Abs.evAll]
    rw [h x List.mem_cons_self, Like.evAll fun y hy => h y (List.mem_cons_of_mem _ hy)]
theorem evC_some {s : St} {x : Operand} {c : C} (h : evC s x = some c) : ev s x = some (.c c) := by
  unfold evC at h
  split at h
  · rename_i hv; cases h; exact hv
  · cases h

section
variable {T T' : Tab}
theorem cont_like {t : Ty} {c : C} (h : ∀ id ∈ idsOf [c], get T' id = get T id) : cont T' t c = cont T t c := by
  cases c with
  | own id => simp only [cont]; rw [h id (by simp [idsOf])]
  | view id lo len => simp only [cont]; rw [h id (by simp [idsOf])]
  | _ => rfl
theorem lenC_like {c : C} (h : ∀ id ∈ idsOf [c], get T' id = get T id) : lenC T' c = lenC T c := by
  cases c with
  | own id => simp only [lenC]; rw [h id (by simp [idsOf])]
  | _ => rfl
theorem lenO_like {z : Option Nat} {id : Nat} (h : get T' id = get T id) : lenO T' z id = lenO T z id := by unfold lenO; rw [h]
theorem cutV_like {z : Option Nat} {x : V} {lo hi : Option Int} {K : C → Option ρ} (h : ∀ id ∈ vIds x, get T' id = get T id) : cutV T' z x lo hi K = cutV T z x lo hi K := by
  cases x with
  | c y =>
    cases y with
    | own id => simp only [cutV]; rw [lenO_like (h id (by simp [vIds, idsOf]))]
    | view id a n => simp only [cutV]; rw [lenO_like (h id (by simp [vIds, idsOf]))]
    | _ => rfl
  | _ => rfl
theorem idxAddr_like {z : Option Nat} {x : V} {i : Int} {K : V → Option ρ} (h : ∀ id ∈ vIds x, get T' id = get T id) : idxAddr T' z x i K = idxAddr T z x i K := by
  cases x with
  | c y =>
    cases y with
    | own id => simp only [idxAddr]; rw [lenO_like (h id (by simp [vIds, idsOf]))]
    | view id a n => simp only [idxAddr]; rw [lenO_like (h id (by simp [vIds, idsOf]))]
    | _ => rfl
  | pt id off =>
    have := h id (by simp [vIds])
    cases off with
    | zero => simp only [idxAddr]; rw [this]
    | succ n => rfl
  | _ => rfl
theorem cellsAt_like {x : V} {n : Nat} (h : ∀ id ∈ vIds x, get T' id = get T id) : cellsAt T' x n = cellsAt T x n := by
  cases x with
  | pt id off => simp only [cellsAt]; rw [h id (by simp [vIds])]
  | oa id i off => simp only [cellsAt]; rw [h id (by simp [vIds])]
  | _ => rfl
theorem arrOk_like {s s' : St} {t : TypeId} {x : V} (h : ∀ id ∈ vIds x, get s'.T id = get s.T id) : arrOk G s' t x = arrOk G s t x := by
  cases x with
  | pt id off => simp only [arrOk]; rw [h id (by simp [vIds])]
  | _ => rfl
theorem alOf_like : ∀ {cs : List C}, (∀ id ∈ idsOf cs, get T' id = get T id) → alOf T' cs = alOf T cs
  | [], _ => rfl
  | c :: cs, h => by
    cases c with
    | own id => simp only [alOf]; rw [h id (by simp [idsOf]), alOf_like fun i hi => h i (by simp only [idsOf, List.mem_cons]; exact .inr hi)]
    | view id lo len => simp only [alOf]; rw [h id (by simp [idsOf]), alOf_like fun i hi => h i (by simp only [idsOf, List.mem_cons]; exact .inr hi)]
    | sl al t xs => simp only [alOf]; rw [alOf_like fun i hi => h i (by simpa [idsOf] using hi)]
    | _ => simp only [alOf]; exact alOf_like fun i hi => h i (by simpa [idsOf] using hi)
theorem readC_like {c : C} (h : ∀ id ∈ idsOf [c], get T' id = get T id) : readC T' [] c = readC T [] c := by
  cases c with
  | own id => simp only [readC]; rw [h id (by simp [idsOf])]
  | view id lo len => simp only [readC]; rw [h id (by simp [idsOf])]
  | _ => rfl
theorem readCs_like : ∀ {cs : List C}, (∀ id ∈ idsOf cs, get T' id = get T id) → readCs T' [] cs = readCs T [] cs
  | [], _ => rfl
  | c :: cs, h => by
    simp only [readCs]
    rw [readC_like fun i hi => h i (idsOf_mem List.mem_cons_self hi), readCs_like fun i hi => h i (by cases c <;> simp only [idsOf, List.mem_cons] <;> first | exact .inr hi | exact hi)]
theorem readV_like {v : V} (h : ∀ id ∈ vIds v, get T' id = get T id) : readV T' [] v = readV T [] v := by
  cases v with
  | c x => simp only [readV]; rw [readC_like h]
  | agg cs => simp only [readV]; rw [readCs_like h]
  | _ => rfl
theorem readE_like : ∀ {vs : List V} {n : Nat}, (∀ v ∈ vs, ∀ id ∈ vIds v, get T' id = get T id) → readE T' [] (argE n vs) = readE T [] (argE n vs)
  | [], _, _ => rfl
  | v :: vs, n, h => by
    simp only [argE, readE]
    rw [readV_like (h v List.mem_cons_self), readE_like fun u hu => h u (List.mem_cons_of_mem _ hu)]
theorem idsOf_app2 : ∀ {cs ds : List C} {i : Nat}, i ∈ idsOf (cs ++ ds) → i ∈ idsOf cs ∨ i ∈ idsOf ds
  | [], _, _, h => .inr h
  | c :: cs, ds, i, h => by
    cases c <;> simp only [List.cons_append, idsOf, List.mem_cons] at h ⊢
    case own => rcases h with h | h; exact .inl (.inl h); exact (idsOf_app2 h).imp .inr id
    case view => rcases h with h | h; exact .inl (.inl h); exact (idsOf_app2 h).imp .inr id
    all_goals exact idsOf_app2 h
theorem argCells_ids : ∀ {vs : List V} {id : Nat}, id ∈ idsOf (argCells vs) → ∃ v ∈ vs, id ∈ vIds v
  | [], _, h => by cases h
  | v :: vs, id, h => by
    have later : id ∈ idsOf (argCells vs) → ∃ u ∈ v :: vs, id ∈ vIds u := fun h => by
      obtain ⟨u, hu, hi⟩ := argCells_ids h
      exact ⟨u, List.mem_cons_of_mem _ hu, hi⟩
    cases v with
    | c x =>
      rcases idsOf_app2 (cs := [x]) (ds := argCells vs) h with h | h
      · exact ⟨_, List.mem_cons_self, h⟩
      · exact later h
    | agg cs =>
      rcases idsOf_app2 (cs := cs) (ds := argCells vs) h with h | h
      · exact ⟨_, List.mem_cons_self, h⟩
      · exact later h
    | _ => exact later h
end
theorem evAll_mem {s : St} : ∀ {l : List Operand} {vs : List V}, evAll s l = some vs → ∀ v ∈ vs, ∃ x ∈ l, ev s x = some v
  | [], vs, h, v, hv => by cases h; cases hv
  | x :: l, vs, h, v, hv => by
    simp only [evAll] at h
    split at h
    case h_2 => cases h
    rename_i u hu
    split at h
    case h_2 => cases h
    rename_i us hus
    cases h
    cases hv with
    | head => exact ⟨x, List.mem_cons_self, hu⟩
    | tail _ hv =>
      obtain ⟨y, hy, h2⟩ := evAll_mem hus v hv
      exact ⟨y, List.mem_cons_of_mem _ hy, h2⟩

theorem minmax_is {mx : Bool} {s : St} {k : IntKind} : ∀ {vs : List V} {x : Int} {K : V → St → Option ρ}, minmax mx s k x vs K = some r → ∃ v, K v s = some r ∧ ∀ (ρ' : Type) (s' : St) (K' : V → St → Option ρ'), minmax mx s' k x vs K' = K' v s'
  | [], x, K, h => ⟨_, h, fun _ _ _ => rfl⟩
  | v :: vs, x, K, h => by
    cases v with
    | c y =>
      cases y with
      | int k' b =>
        simp only [minmax] at h
        split at h
        case isFalse => cases h
        rename_i hk
        obtain ⟨v, hv, hi⟩ := minmax_is h
        exact ⟨v, hv, fun ρ' s' K' => by simp only [minmax, if_pos hk]; exact hi ρ' s' K'⟩
      | _ => simp [minmax] at h
    | _ => simp [minmax] at h
theorem lenK_is {s s' : St} {t : TypeId} {x : V} (hT : ∀ id ∈ vIds x, get s'.T id = get s.T id) {K : V → St → Option ρ} (h : lenK G s t x K = some r) : ∃ v, K v s = some r ∧ ∀ (ρ' : Type) (K' : V → St → Option ρ'), lenK G s' t x K' = K' v s' := by
  unfold lenK at h
  split at h
  · rcases ble_of h with ⟨hb, h'⟩ | ⟨_, h'⟩
    · exact ⟨_, h', fun _ K' => by simp only [lenK, hb, cond_true]⟩
    · cases h'
  · rename_i c hno
    split at h
    case h_2 => cases h
    rename_i n hn
    rcases ble_of h with ⟨hb, h'⟩ | ⟨_, h'⟩
    · refine ⟨_, h', fun _ K' => ?_⟩
      unfold lenK
      split
      · rename_i heq; exact absurd heq (by simpa using hno _)
      · rename_i heq
        cases heq
        rw [lenC_like (T := s.T) hT, hn]
        simp only [hb, cond_true]
      · rename_i heq; cases heq
      · first | (rename_i x; exact (x _ rfl).elim) | (rename_i x _; exact (x _ rfl).elim) | (rename_i x _ _; exact (x _ rfl).elim)
    · cases h'
  · split at h
    case h_2 => cases h
    rename_i hE
    rcases ble_of h with ⟨hb, h'⟩ | ⟨_, h'⟩
    · exact ⟨_, h', fun _ K' => by simp only [lenK, hE, hb, cond_true]⟩
    · cases h'
  · cases h
theorem builtinK_is {s s' : St} {d : Nat} {b : Builtin} {at_ : List TypeId} {vs : List V} (hb : b = .len ∨ b = .min ∨ b = .max) (hT : ∀ v ∈ vs, ∀ id ∈ vIds v, get s'.T id = get s.T id) {K : V → St → Option ρ} (h : builtinK G s d b at_ vs K = some r) : ∃ v, K v s = some r ∧ ∀ (ρ' : Type) (K' : V → St → Option ρ'), builtinK G s' d b at_ vs K' = K' v s' := by
  unfold builtinK at h
  split at h
  · split at h
    · obtain ⟨v, hv, hi⟩ := lenK_is (s' := s') (hT _ List.mem_cons_self) h
      exact ⟨v, hv, fun ρ' K' => hi ρ' K'⟩
    · cases h
  · obtain ⟨v, hv, hi⟩ := minmax_is h
    exact ⟨v, hv, fun ρ' K' => hi ρ' s' K'⟩
  · obtain ⟨v, hv, hi⟩ := minmax_is h
    exact ⟨v, hv, fun ρ' K' => hi ρ' s' K'⟩
  · rcases hb with h | h | h <;> cases h
  · rcases hb with h | h | h <;> cases h
  · cases h
theorem buildC_like {s s' : St} {fs : List (Nat × Nat × Bool)} : ∀ {l : List (Nat × Operand)} {cs : List C}, (∀ p ∈ l, ev s' p.2 = ev s p.2) → opK.buildC s' fs cs l = opK.buildC s fs cs l
  | [], _, _ => rfl
  | (i, x) :: l, cs, h => by
    have ih : ∀ cs, opK.buildC s' fs cs l = opK.buildC s fs cs l := fun cs => buildC_like fun p hp => h p (List.mem_cons_of_mem _ hp)
    have hx : ev s' x = ev s x := h (i, x) List.mem_cons_self
    simp only [opK.buildC, ih, hx]
theorem opK_neutral {o : Oper} {s s' : St} {K : V → St → Option ρ} (hn : pureOp o = true) (hl : Like o s s') (h : opK G o s K = some r) : ∃ v, K v s = some r ∧ ∀ (ρ' : Type) (K' : V → St → Option ρ'), opK G o s' K' = K' v s' := by
  obtain ⟨dst, op, type, pos, aft, gd⟩ := o
  have hev := hl.ev
  unfold pureOp at hn
  cases op <;> simp only [] at hn <;> try cases hn
  case move x =>
    have e := hev x (by simp [Op.operands])
    simp only [opK] at h
    split at h
    case h_2 => cases h
    rename_i v hv
    exact ⟨v, h, fun _ K' => by simp only [opK, e, hv]⟩
  case assign x =>
    have e := hev x (by simp [Op.operands])
    simp only [opK] at h
    split at h
    case h_2 => cases h
    rename_i v hv
    exact ⟨v, h, fun _ K' => by simp only [opK, e, hv]⟩
  case nilCheck x =>
    have e := hev x (by simp [Op.operands])
    simp only [opK] at h
    split at h
    · rename_i hv; exact ⟨_, h, fun _ K' => by simp only [opK, e, hv]⟩
    · rename_i hv; exact ⟨_, h, fun _ K' => by simp only [opK, e, hv]⟩
    · cases h
  case binOp op t x y t' =>
    have e1 := hev x (by simp [Op.operands])
    have e2 := hev y (by simp [Op.operands])
    simp only [opK] at h
    split at h
    case h_2 => cases h
    rename_i v hv
    split at h
    case h_2 => cases h
    rename_i v' hv'
    obtain ⟨c, hc, hi⟩ := binV_is h
    exact ⟨.c c, hc, fun _ K' => by simp only [opK, e1, hv, e2, hv']; exact hi _ _⟩
  case pick c x y =>
    have e0 := hl.evC (x := c) (by simp [Op.operands])
    have e1 := hev x (by simp [Op.operands])
    have e2 := hev y (by simp [Op.operands])
    simp only [opK] at h
    split at h
    case h_2 => cases h
    rename_i b hc
    generalize hx : ev s x = px at h
    generalize hy : ev s y = py at h
    rw [hc] at e0
    rw [hx] at e1
    rw [hy] at e2
    split at h
    · exact ⟨_, h, fun _ K' => by simp only [opK, e0, e1, e2]⟩
    · rename_i hno
      refine ⟨_, h, fun _ K' => ?_⟩
      simp only [opK, e0, e1, e2]
    · rename_i hno
      refine ⟨_, h, fun _ K' => ?_⟩
      simp only [opK, e0, e1, e2]
    · cases h
  case unOp op t x =>
    have e := hl.evC (x := x) (by simp [Op.operands])
    simp only [opK] at h
    split at h
    · rename_i b hb
      rw [hb] at e
      cases op <;> simp only [] at h <;> try cases h
      exact ⟨_, h, fun _ K' => by simp only [opK, e]⟩
    · rename_i k n hb
      rw [hb] at e
      cases op <;> simp only [] at h <;> try cases h
      · exact ⟨_, h, fun _ K' => by simp only [opK, e]⟩
      · exact ⟨_, h, fun _ K' => by simp only [opK, e]⟩
    · cases h
  case convert src dst x =>
    have e := hl.evC (x := x) (by simp [Op.operands])
    simp only [opK] at h
    rcases ble_of h with ⟨_, h'⟩ | ⟨hs, h'⟩
    · cases h'
    · split at h'
      · rename_i hb
        rw [hb] at e
        split at h'
        · rename_i hd
          exact ⟨_, h', fun _ K' => by simp only [opK, hs, cond_false, e, hd]⟩
        · cases h'
      · rename_i hb
        rw [hb] at e
        split at h'
        · rename_i hd
          exact ⟨_, h', fun _ K' => by simp only [opK, hs, cond_false, e, hd]⟩
        · rename_i hd
          rcases ble_of h' with ⟨hb2, h2⟩ | ⟨_, h2⟩
          · exact ⟨_, h2, fun _ K' => by simp only [opK, hs, cond_false, e, hd, hb2, cond_true]⟩
          · cases h2
        · cases h'
      · rename_i id hb
        rw [hb] at e
        rcases ble_of h' with ⟨_, h2⟩ | ⟨hb2, h2⟩
        · cases h2
        · split at h2
          · rename_i hd
            split at h2
            · rename_i xs hxs
              refine ⟨_, h2, fun _ K' => ?_⟩
              have hc' : cont s'.T (.int .u8) (.own id) = cont s.T (.int .u8) (.own id) := cont_like (hl.at (by simp [Op.operands]) (evC_some hb))
              simp only [opK, hs, cond_false, e, hb2, hd, hc', hxs]
            · cases h2
          · rcases ble_of h2 with ⟨hb3, h2⟩ | ⟨_, h2⟩
            · simp only [Bool.and_eq_true] at hb3
              rw [hb3.1] at hn
              cases hn
            · cases h2
          · cases h2
      · rename_i c hn1 hn2 hn3 hb
        rw [hb] at e
        rcases ble_of h' with ⟨_, h2⟩ | ⟨hb2, h2⟩
        · cases h2
        · split at h2
          · rename_i hd
            split at h2
            · rename_i xs hxs
              refine ⟨_, h2, fun _ K' => ?_⟩
              have hc' : cont s'.T (.int .u8) c = cont s.T (.int .u8) c := cont_like (hl.at (by simp [Op.operands]) (evC_some hb))
              simp only [opK, hs, cond_false, e, hb2, hd, hc', hxs]
            · cases h2
          · cases h2
      · cases h'
  case slice t x lo hi mx =>
    have e := hev x (by simp [Op.operands])
    cases mx with
    | some m => cases hn
    | none =>
      have e1 := hl.evO (x := lo) (fun y hy => by subst hy; simp [Op.operands])
      have e2 := hl.evO (x := hi) (fun y hy => by subst hy; simp [Op.operands])
      simp only [opK] at h
      split at h
      case h_2 => cases h
      rename_i v hv
      split at h
      case h_2 => cases h
      rename_i l hlo
      split at h
      case h_2 => cases h
      rename_i l' hhi
      rcases ble_of h with ⟨hb, h'⟩ | ⟨_, h'⟩
      · obtain ⟨c, hc, hi⟩ := cutV_is h'
        exact ⟨.c c, hc, fun _ K' => by simp only [opK, e, hv, e1, hlo, e2, hhi, hb, cond_true]; rw [cutV_like (hl.at (by simp [Op.operands]) hv)]; exact hi _ _⟩
      · cases h'
  case indexAddr t x i =>
    have e := hev x (by simp [Op.operands])
    have e1 := hl.evI (x := i) (by simp [Op.operands])
    simp only [opK] at h
    split at h
    case h_2 => cases h
    rename_i v hv
    split at h
    case h_2 => cases h
    rename_i n hn'
    rcases ble_of h with ⟨hb, h'⟩ | ⟨_, h'⟩
    · obtain ⟨c, hc, hi⟩ := idxAddr_is h'
      have hb' : arrOk G s' t v = true := by
        rw [arrOk_like (hl.at (by simp [Op.operands]) hv)]
        exact hb
      exact ⟨c, hc, fun _ K' => by simp only [opK, e, hv, e1, hn', hb', cond_true]; rw [idxAddr_like (hl.at (by simp [Op.operands]) hv)]; exact hi _ _⟩
    · cases h'
  case index t x i =>
    have e := hl.evC (x := x) (by simp [Op.operands])
    have e1 := hl.evI (x := i) (by simp [Op.operands])
    simp only [opK] at h
    split at h
    case h_2 => cases h
    rename_i xs hv
    split at h
    case h_2 => cases h
    rename_i n hn'
    rcases ble_of h with ⟨_, h'⟩ | ⟨hb, h'⟩
    · cases h'
    · split at h'
      · rename_i hc
        exact ⟨_, h', fun _ K' => by simp only [opK, e, hv, e1, hn', hb, cond_false, if_pos hc]⟩
      · cases h'
  case fieldAddr t x f =>
    have e := hev x (by simp [Op.operands])
    simp only [opK] at h
    rcases ble_of h with ⟨_, h'⟩ | ⟨hb, h'⟩
    · cases h'
    · split at h'
      case h_2 => cases h'
      rename_i hf
      split at h'
      · rename_i hv; exact ⟨_, h', fun _ K' => by simp only [opK, hb, cond_false, hf, e, hv]⟩
      · rename_i hv; exact ⟨_, h', fun _ K' => by simp only [opK, hb, cond_false, hf, e, hv]⟩
      · rename_i hv; exact ⟨_, h', fun _ K' => by simp only [opK, hb, cond_false, hf, e, hv]⟩
      · cases h'
  case field t x f =>
    have e := hev x (by simp [Op.operands])
    simp only [opK] at h
    rcases ble_of h with ⟨_, h'⟩ | ⟨hb, h'⟩
    · cases h'
    · split at h'
      case h_2 => cases h'
      rename_i hf
      split at h'
      case h_2 => cases h'
      rename_i cs hv
      split at h'
      case h_2 => cases h'
      rename_i v hm
      exact ⟨_, h', fun _ K' => by simp only [opK, hb, cond_false, hf, e, hv, hm]⟩
  case extract x i =>
    have e := hev x (by simp [Op.operands])
    simp only [opK] at h
    split at h
    case h_2 => cases h
    rename_i vs hv
    split at h
    case h_2 => cases h
    rename_i g cs hi
    split at h
    case h_2 => cases h
    rename_i v hm
    exact ⟨_, h, fun _ K' => by simp only [opK, e, hv, hi, hm]⟩
  case load t x =>
    have e := hev x (by simp [Op.operands])
    simp only [opK] at h
    split at h
    case h_2 => cases h
    rename_i ty ht
    split at h
    · rename_i id hv
      have hT : get s'.T id = get s.T id := (hl.at (by simp [Op.operands]) hv) id (by simp [vIds])
      generalize hT1 : get s.T id = gT at h
      split at h
      · rename_i tt n u xs m u'
        rcases ble_of h with ⟨hb, h'⟩ | ⟨_, h'⟩
        · exact ⟨_, h', fun _ K' => by simp only [opK, ht, e, hv, hT, hT1, hb, cond_true]⟩
        · cases h'
      · rename_i hno
        split at h
        case h_2 => cases h
        rename_i cs hc
        split at h
        case h_2 => cases h
        rename_i v hm
        refine ⟨_, h, fun _ K' => ?_⟩
        have hc' := cellsAt_like (n := ty.size) (hl.at (by simp [Op.operands]) hv)
        simp only [opK, ht, e, hv, hT, hT1, hc', hc, hm]
    · rename_i v hno hv
      split at h
      case h_2 => cases h
      rename_i cs hc
      split at h
      case h_2 => cases h
      rename_i v' hm
      refine ⟨_, h, fun _ K' => ?_⟩
      have hc' := cellsAt_like (n := ty.size) (hl.at (by simp [Op.operands]) hv)
      simp only [opK, ht, e, hv, hc', hc, hm]
    · cases h
  case call c =>
    have ea : evAll s' c.args.toList = evAll s c.args.toList := Like.evAll fun x hx => hev x (by
      simp only [Op.operands, Call.operands, Array.mem_append]
      exact .inr (by simpa using hx))
    simp only [opK] at h
    cases hc : c.callee with
    | invoke _ _ => rw [hc] at h; cases h
    | builtin b =>
      rw [hc] at h hn
      simp only [] at h
      split at h
      case h_2 => cases h
      rename_i vs hvs
      rw [hvs] at ea
      have fin : ∀ v, K v s = some r → (∀ (ρ' : Type) (K' : V → St → Option ρ'), builtinK G s' (dst.getD 999) b c.argTypes.toList vs K' = K' v s') → ∃ v, K v s = some r ∧ ∀ (ρ' : Type) (K' : V → St → Option ρ'), opK G { dst, op := Op.call c, type, pos, after := aft, guard := gd } s' K' = K' v s' := fun v hv hi =>
        ⟨v, hv, fun ρ' K' => by simp only [opK, hc, ea]; exact hi ρ' K'⟩
      have hb : b = .len ∨ b = .min ∨ b = .max := by
        cases b <;> simp only [] at hn <;> first | cases hn; done | simp
      obtain ⟨v, hv, hi⟩ := builtinK_is (s' := s') hb (fun u hu => by
        obtain ⟨y, hy, hyv⟩ := evAll_mem hvs u hu
        exact hl.at (by
          simp only [Op.operands, Call.operands, Array.mem_append]
          exact .inr (by simpa using hy)) hyv) h
      exact fin v hv hi
    | value x => rw [hc] at hn; cases hn
  case build t parts =>
    simp only [opK] at h
    split at h
    case h_3 => cases h
    · rename_i n u ht
      rcases ble_of h with ⟨_, h'⟩ | ⟨hb, h'⟩
      · cases h'
      · exact ⟨_, h', fun _ K' => by simp only [opK, ht, hb, cond_false]⟩
    · rename_i ty hno ht
      rcases ble_of h with ⟨_, h'⟩ | ⟨hb, h'⟩
      · cases h'
      · split at h'
        case h_2 => cases h'
        rename_i cs hcs
        have hbc : opK.buildC s' (tiOf G t).fields (zeroC ty) parts.toList = some cs := by
          rw [buildC_like fun p hp => hev p.2 (by simp only [Op.operands]; exact List.mem_toArray.2 (List.mem_map.2 ⟨p, hp, rfl⟩))]
          exact hcs
        refine ⟨_, h', fun _ K' => ?_⟩
        simp only [opK, ht, hb, cond_false, hbc]
end
end Go.Proofs.YtkadllkeekoopaaGreat.Abs
end

section
namespace Go.Proofs.YtkadllkeekoopaaGreat.Abs
open Go.RowKit

section
variable {ρ : Type} {G : Ctx} {r : ρ}

/-! ## Cells that name no object -/
theorem idsOf_nil_app {cs ds : List C} (h1 : idsOf cs = []) (h2 : idsOf ds = []) : idsOf (cs ++ ds) = [] := by rw [idsOf_app, h1, h2]; rfl
theorem idsOf_sub {cs ds : List C} (h : ∀ c ∈ cs, c ∈ ds) (hd : idsOf ds = []) : idsOf cs = [] := by
  cases hi : idsOf cs with
  | nil => rfl
  | cons i l =>
    have hm : i ∈ idsOf cs := by rw [hi]; exact List.mem_cons_self
    have : ∃ c ∈ cs, i ∈ idsOf [c] := by
      clear hi h
      induction cs with
      | nil => cases hm
      | cons c cs ih =>
        rcases idsOf_app2 (cs := [c]) (ds := cs) hm with h | h
        · exact ⟨c, List.mem_cons_self, h⟩
        · obtain ⟨c', h1, h2⟩ := ih h
          exact ⟨c', List.mem_cons_of_mem _ h1, h2⟩
    obtain ⟨c, hc, hi'⟩ := this
    have := idsOf_mem (h c hc) hi'
    rw [hd] at this
    cases this
theorem flat_noid {al : Bool} : ∀ (t : Ty) (x : t.den), idsOf (flat al t x) = []
  | .int _, _ => rfl
  | .bool, _ => rfl
  | .str, _ => rfl
  | .unit, _ => rfl
  | .sl _, _ => rfl
  | .arr n t, xs => by
    have : ∀ l : List Nat, idsOf (l.flatMap fun i => flat al t (xs.getD i t.zero)) = [] := fun l => by
      induction l with
      | nil => rfl
      | cons i l ih => rw [List.flatMap_cons]; exact idsOf_nil_app (flat_noid t _) ih
    exact this _
  | .pair a b, x => idsOf_nil_app (flat_noid a x.1) (flat_noid b x.2)
theorem spliceC_noid {cs new cs' : List C} {off : Nat} (h : spliceC cs off new = some cs') (h1 : idsOf cs = []) (h2 : idsOf new = []) : idsOf cs' = [] := by
  unfold spliceC at h
  rcases ble_of h with ⟨_, h⟩ | ⟨_, h⟩
  · cases h
    exact idsOf_nil_app (idsOf_nil_app (idsOf_sub (fun c hc => List.mem_of_mem_take hc) h1) h2) (idsOf_sub (fun c hc => List.mem_of_mem_drop hc) h1)
  · cases h
theorem repM_eq {α : Type} {f g : List C → Option (α × List C)} (hfg : ∀ cs, idsOf cs = [] → g cs = f cs ∧ ∀ x r, f cs = some (x, r) → idsOf r = []) : ∀ (n : Nat) (cs : List C), idsOf cs = [] → repM g n cs = repM f n cs ∧ ∀ x r, repM f n cs = some (x, r) → idsOf r = []
  | 0, cs, h => ⟨rfl, fun x r hx => by simp only [repM] at hx; cases hx; exact h⟩
  | n + 1, cs, h => by
    obtain ⟨h1, h2⟩ := hfg cs h
    simp only [repM]
    rw [h1]
    cases hf : f cs with
    | none => exact ⟨rfl, fun x r hx => by cases hx⟩
    | some p =>
      obtain ⟨x, r⟩ := p
      obtain ⟨h3, h4⟩ := repM_eq hfg n r (h2 x r hf)
      simp only []
      rw [h3]
      refine ⟨rfl, fun y q hy => ?_⟩
      split at hy
      · rename_i xs r' hr
        cases hy
        exact h4 xs _ hr
      · cases hy
theorem unflat_noid {T T' : Tab} : ∀ (t : Ty) (cs : List C), idsOf cs = [] → unflat T' t cs = unflat T t cs ∧ ∀ x r, unflat T t cs = some (x, r) → idsOf r = []
  | .int k, cs, h => by
    cases cs with
    | nil => exact ⟨rfl, fun x r hx => by simp [unflat] at hx⟩
    | cons c cs =>
      cases c with
      | int k' n =>
        refine ⟨rfl, fun x r hx => ?_⟩
        simp only [unflat] at hx
        split at hx
        · cases hx; simpa [idsOf] using h
        · cases hx
      | _ => exact ⟨rfl, fun x r hx => by simp [unflat] at hx⟩
  | .bool, cs, h => by
    cases cs with
    | nil => exact ⟨rfl, fun x r hx => by simp [unflat] at hx⟩
    | cons c cs =>
      cases c with
      | bool b =>
        refine ⟨rfl, fun x r hx => ?_⟩
        simp only [unflat] at hx
        cases hx; simpa [idsOf] using h
      | _ => exact ⟨rfl, fun x r hx => by simp [unflat] at hx⟩
  | .str, cs, h => by
    cases cs with
    | nil => exact ⟨rfl, fun x r hx => by simp [unflat] at hx⟩
    | cons c cs =>
      cases c with
      | str b =>
        refine ⟨rfl, fun x r hx => ?_⟩
        simp only [unflat] at hx
        cases hx; simpa [idsOf] using h
      | _ => exact ⟨rfl, fun x r hx => by simp [unflat] at hx⟩
  | .unit, cs, h => ⟨rfl, fun x r hx => by simp only [unflat] at hx; cases hx; exact h⟩
  | .sl t, cs, h => by
    cases cs with
    | nil => exact ⟨rfl, fun x r hx => by simp [unflat] at hx⟩
    | cons c cs =>
      have hc : idsOf [c] = [] := idsOf_sub (fun x hx => by simp at hx; subst hx; exact List.mem_cons_self) h
      have hr : idsOf cs = [] := idsOf_sub (fun x hx => List.mem_cons_of_mem _ hx) h
      simp only [unflat]
      rw [cont_like (T := T) (T' := T') (fun id hi => by rw [hc] at hi; cases hi)]
      refine ⟨rfl, fun x r hx => ?_⟩
      split at hx
      · cases hx; exact hr
      · cases hx
  | .arr n t, cs, h => by
    simp only [unflat]
    exact repM_eq (fun cs h => unflat_noid t cs h) n cs h
  | .pair a b, cs, h => by
    obtain ⟨h1, h2⟩ := unflat_noid (T := T) (T' := T') a cs h
    simp only [unflat]
    rw [h1]
    cases hf : unflat T a cs with
    | none => exact ⟨rfl, fun x r hx => by cases hx⟩
    | some p =>
      obtain ⟨x, r⟩ := p
      obtain ⟨h3, h4⟩ := unflat_noid (T := T) (T' := T') b r (h2 x r hf)
      simp only []
      rw [h3]
      refine ⟨rfl, fun y q hy => ?_⟩
      split at hy
      · rename_i z r' hr
        cases hy
        exact h4 z _ hr
      · cases hy
theorem unflatL_noid {T T' : Tab} {t : Ty} : ∀ {css : List (List C)}, idsOf css.flatten = [] → unflatL T' t css = unflatL T t css
  | [], _ => rfl
  | cs :: css, h => by
    have h1 : idsOf cs = [] := idsOf_sub (fun c hc => by rw [List.flatten_cons]; exact List.mem_append_left _ hc) h
    have h2 : idsOf css.flatten = [] := idsOf_sub (fun c hc => by rw [List.flatten_cons]; exact List.mem_append_right _ hc) h
    simp only [unflatL]
    rw [(unflat_noid (T := T) (T' := T') t cs h1).1, unflatL_noid h2]
theorem alOfs_noid {T T' : Tab} : ∀ {css : List (List C)}, idsOf css.flatten = [] → alOfs T' css = alOfs T css
  | [], _ => rfl
  | cs :: css, h => by
    have h1 : idsOf cs = [] := idsOf_sub (fun c hc => by rw [List.flatten_cons]; exact List.mem_append_left _ hc) h
    have h2 : idsOf css.flatten = [] := idsOf_sub (fun c hc => by rw [List.flatten_cons]; exact List.mem_append_right _ hc) h
    simp only [alOfs]
    rw [alOf_like (T := T) (T' := T') (fun id hi => by rw [h1] at hi; cases hi), alOfs_noid h2]
theorem setEl_noid {T T' : Tab} {al : Bool} {t : Ty} {xs : List t.den} {i off : Nat} {new : List C} (h : idsOf new = []) : setEl T' al t xs i off new = setEl T al t xs i off new := by
  unfold setEl
  rw [h]
  simp only [List.isEmpty_nil, Bool.not_true, cond_false]
  cases hs : spliceC (flat al t (xs.getD i t.zero)) off new with
  | none => rfl
  | some cs =>
    simp only []
    rw [(unflat_noid (T := T) (T' := T') t cs (spliceC_noid hs (flat_noid t _) h)).1, alOf_like (T := T) (T' := T') (fun id hi => by rw [h] at hi; cases hi)]
theorem cellsOf_ids {v : V} {cs : List C} (h : cellsOf v = some cs) : idsOf cs = vIds v := by
  cases v with
  | c x => cases h; rfl
  | agg cs => cases h; rfl
  | _ => cases h
theorem opIds_nil {s : St} : ∀ {l : List Operand}, (opIds s l).isEmpty = true → ∀ x ∈ l, ∀ v, ev s x = some v → vIds v = []
  | y :: l, h, x, hx, v, hv => by
    simp only [opIds] at h
    cases hx with
    | head =>
      rw [hv] at h
      simp only [List.isEmpty_iff, List.append_eq_nil_iff] at h
      exact h.1
    | tail _ hx =>
      refine opIds_nil (l := l) ?_ x hx v hv
      split at h
      · simp only [List.isEmpty_iff, List.append_eq_nil_iff] at h
        simp [h.2]
      · exact h
theorem cellss_noid {s : St} : ∀ {vs : List V} {css : List (List C)}, cellss vs = some css → (∀ v ∈ vs, vIds v = []) → idsOf css.flatten = []
  | [], css, h, _ => by cases h; rfl
  | v :: vs, css, h, hv => by
    simp only [cellss] at h
    split at h
    case h_2 => cases h
    rename_i cs hcs
    split at h
    case h_2 => cases h
    rename_i css' hcss
    cases h
    rw [List.flatten_cons]
    refine idsOf_nil_app ?_ (cellss_noid (s := s) hcss fun u hu => hv u (List.mem_cons_of_mem _ hu))
    rw [cellsOf_ids hcs]
    exact hv v List.mem_cons_self

/-! ## What is new or written -/
theorem newO_of {d : Nat} {ob : Obj} {s : St} (h : get s.T d = none) : newO d ob s = some ⟨s.env, (d, ob) :: s.T⟩ := by simp only [newO, h]
/-- What an operation in free order is worth, whatever has been carried out. -/
def FxOk (G : Ctx) (o : Oper) (s : St) (v : V) (upd : Tab) : Prop := ∀ s', Like o s s' → (∀ k, (get upd k).isSome = true → get s.T k = none → get s'.T k = none) →
  ∃ T', (∀ (ρ' : Type) (K' : V → St → Option ρ'), opK G o s' K' = K' v ⟨s'.env, T'⟩) ∧ ∀ k, get T' k = (get upd k).or (get s'.T k)
theorem fx_new {o : Oper} {s : St} {d : Nat} {ob : Obj} {v : V} (hfree : get s.T d = none) (h : ∀ s', Like o s s' → get s'.T d = none → ∀ (ρ' : Type) (K' : V → St → Option ρ'), opK G o s' K' = K' v ⟨s'.env, (d, ob) :: s'.T⟩) : FxOk G o s v [(d, ob)] := fun s' hl hf => by
  have hn : get s'.T d = none := hf d (by rw [get_cons, if_pos rfl]; rfl) hfree
  refine ⟨(d, ob) :: s'.T, h s' hl hn, fun k => ?_⟩
  rw [get_cons, get_cons]
  by_cases e : d = k
  · simp [e]
  · rw [if_neg e, if_neg e]
    rfl
theorem fx_set {o : Oper} {s : St} {id : Nat} {ob : Obj} {v : V} (h : ∀ s', Like o s s' → ∀ (ρ' : Type) (K' : V → St → Option ρ'), opK G o s' K' = K' v (setO id ob s')) : FxOk G o s v [(id, ob)] := fun s' hl hf => by
  refine ⟨(setO id ob s').T, h s' hl, fun k => ?_⟩
  simp only [setO, get_cons, get_del]
  by_cases e : id = k
  · simp [e]
  · rw [if_neg e, if_neg e, if_neg e]
    rfl
theorem fx_pure {o : Oper} {s : St} {K : V → Tab → Option ρ} (hp : pureOp o = true) (h : opK G o s (fun v _ => K v []) = some r) : ∃ v upd, K v upd = some r ∧ FxOk G o s v upd := by
  have hself : Like o s s := ⟨fun _ _ => rfl, fun _ _ => rfl⟩
  obtain ⟨v, hv, hi⟩ := opK_neutral (s' := s) hp hself h
  refine ⟨v, [], hv, fun s' hl _ => ⟨s'.T, fun ρ' K' => ?_, fun k => rfl⟩⟩
  have h0 := hi V (fun v _ => some v)
  obtain ⟨v', hv', hi'⟩ := opK_neutral (s' := s') hp hl h0
  cases hv'
  exact hi' ρ' K'
theorem newL_spec {al : Bool} {b : Nat} : ∀ {L : Tab} {s s' : St}, addObjs al [] b L s = some s' → s' = ⟨s.env, newL al b L ++ s.T⟩ ∧ (∀ k, (get (newL al b L) k).isSome = true → get s.T k = none) ∧
    ∀ s1 : St, (∀ k, (get (newL al b L) k).isSome = true → get s1.T k = none) → addObjs al [] b L s1 = some ⟨s1.env, newL al b L ++ s1.T⟩
  | [], s, s', h => by
    cases h
    exact ⟨rfl, fun k h => by simp [newL, get] at h, fun _ _ => rfl⟩
  | (i, x) :: L, s, s', h => by
    simp only [addObjs] at h
    split at h
    case h_2 => cases h
    rename_i s0 hs0
    have hg : has [] i = false := rfl
    rw [hg] at h
    simp only [cond_false] at h
    obtain ⟨e1, e2, e3⟩ := newL_spec hs0
    obtain ⟨hn, rfl⟩ := newO_some h
    subst e1
    have hnL : get (newL al b L) (b + i) = none ∧ get s.T (b + i) = none := by
      have hn : get (newL al b L ++ s.T) (b + i) = none := hn
      cases h1 : get (newL al b L) (b + i) with
      | some o =>
        exfalso
        have : ∀ (l m : Tab) k o, get l k = some o → get (l ++ m) k = some o := fun l => by
          induction l with
          | nil => intro m k o h; cases h
          | cons p l ih =>
            obtain ⟨j, y⟩ := p
            intro m k o h
            rw [List.cons_append, get_cons]
            rw [get_cons] at h
            split at h
            · rename_i e; rw [if_pos e]; exact h
            · rename_i e; rw [if_neg e]; exact ih m k o h
        rw [this _ s.T _ o h1] at hn
        cases hn
      | none =>
        refine ⟨rfl, ?_⟩
        cases h2 : get s.T (b + i) with
        | none => rfl
        | some o =>
          exfalso
          have : ∀ (l m : Tab) k, get l k = none → get (l ++ m) k = get m k := fun l => by
            induction l with
            | nil => intro m k h; rfl
            | cons p l ih =>
              obtain ⟨j, y⟩ := p
              intro m k h
              rw [List.cons_append, get_cons]
              rw [get_cons] at h
              split at h
              · cases h
              · rename_i e; rw [if_neg e]; exact ih m k h
          rw [this _ s.T _ h1, h2] at hn
          cases hn
    refine ⟨rfl, fun k hk => ?_, fun s1 hf => ?_⟩
    · simp only [newL, get_cons] at hk
      split at hk
      · rename_i e
        rw [← e]
        exact hnL.2
      · exact e2 k hk
    · have hf' : ∀ k, (get (newL al b L) k).isSome = true → get s1.T k = none := fun k hk => hf k (by
        simp only [newL, get_cons]
        split
        · rfl
        · exact hk)
      have hfi : get s1.T (b + i) = none := hf (b + i) (by simp [newL, get_cons])
      simp only [addObjs, e3 s1 hf', hg, cond_false]
      have hnn : get (newL al b L ++ s1.T) (b + i) = none := by
        cases hq : get (newL al b L ++ s1.T) (b + i) with
        | none => rfl
        | some o =>
          exfalso
          rcases get_app hq with h | ⟨_, h⟩
          · rw [hnL.1] at h; cases h
          · rw [hfi] at h; cases h
      exact newO_of hnn
theorem get_app_or {α : Type} {l m : List (Nat × α)} (k : Nat) : get (l ++ m) k = (get l k).or (get m k) := by
  induction l with
  | nil => rfl
  | cons p l ih =>
    obtain ⟨j, y⟩ := p
    rw [List.cons_append, get_cons, get_cons]
    by_cases e : j = k
    · simp [e]
    · rw [if_neg e, if_neg e]; exact ih
theorem fx_call {o : Oper} {c : Call} {s : St} {K : V → Tab → Option ρ} (ho : o.op = .call c) {f : FuncId} (hc : c.callee = .value (.func f)) {F : Fn} (hF : get G.calls f = some F) {vs : List V} (hvs : evAll s c.args.toList = some vs) (h : fxCall F s (o.dst.getD 999) vs K = some r) : ∃ v upd, K v upd = some r ∧ FxOk G o s v upd := by
  unfold fxCall at h
  rcases ble_of h with ⟨hb, h⟩ | ⟨_, h⟩
  case inr => cases h
  simp only [Bool.and_eq_true, Bool.or_eq_true, Bool.not_eq_true'] at hb
  obtain ⟨⟨⟨⟨hb1, hb2⟩, hb3⟩, hb4⟩, hb5⟩ := hb
  split at h
  case h_1 => cases h
  rename_i e he
  split at h
  case h_1 => cases h
  rename_i x hx
  cases hrun : F.run x with
  | none => rw [hrun] at h; cases h
  | some res =>
    rw [hrun] at h
    simp only [Option.bind_some] at h
    split at h
    case h_1 => cases h
    rename_i s2 hs2
    split at h
    case h_2 => cases h
    rename_i v hv
    obtain ⟨_, hfree, hadd⟩ := newL_spec hs2
    refine ⟨v, _, h, fun s' hl hf => ⟨newL (alOf s.T (argCells vs)) (1000 * (o.dst.getD 999 + 1)) (unpack F.dout res).T ++ s'.T, fun ρ' K' => ?_, fun k => get_app_or k⟩⟩
    have hmem : ∀ y ∈ c.args.toList, y ∈ o.op.operands := fun y hy => by
      rw [ho]
      simp only [Op.operands, Call.operands, Array.mem_append]
      exact .inr (by simpa using hy)
    have hids : ∀ v ∈ vs, ∀ id ∈ vIds v, get s'.T id = get s.T id := fun v hv => by
      obtain ⟨y, hy, hyv⟩ := evAll_mem hvs v hv
      exact hl.at (hmem y hy) hyv
    have ea : evAll s' c.args.toList = some vs := by rw [Like.evAll fun y hy => hl.ev y (hmem y hy)]; exact hvs
    have er : readE s'.T [] (argE 0 vs) = some e := by rw [readE_like hids]; exact he
    have eal : alOf s'.T (argCells vs) = alOf s.T (argCells vs) := alOf_like fun id hi => by
      obtain ⟨v, hv, hi⟩ := argCells_ids hi
      exact hids v hv id hi
    have efz : (bif hasAl F.dout then freezeAll (idsOf (argCells vs)) s' else some s') = some s' := by
      rcases hb4 with h | h
      · rw [h]; rfl
      · rw [List.isEmpty_iff.1 h]
        cases hasAl F.dout <;> rfl
    have eadd := hadd s' (fun k hk => hf k hk (hfree k hk))
    obtain ⟨dst, op, ty, pos, aft, gd⟩ := o
    simp only at ho
    subst ho
    simp only [opK, hc, hF, ea, callK, hb1, hb2, Bool.and_self, cond_true, hb3, callR, hb5, Bool.not_true, cond_false, er, hx, efz, hrun, Option.bind_some, eal]
    simp only at eadd hv
    rw [eadd]
    simp only [hv]
end
end Go.Proofs.YtkadllkeekoopaaGreat.Abs
end

section
namespace Go.Proofs.YtkadllkeekoopaaGreat.Abs
open Go.RowKit

section
variable {ρ : Type} {G : Ctx} {r : ρ}
theorem at_new {d : Nat} {ob : Obj} {T : Tab} {v : V} {K : V → Tab → Option ρ} (h : (match get ((d, ob) :: T) d with
    | some ob => K v [(d, ob)]
    | none => none) = some r) : K v [(d, ob)] = some r := by
  rw [get_cons, if_pos rfl] at h
  exact h
theorem at_set {id : Nat} {ob : Obj} {s : St} {v : V} {K : V → Tab → Option ρ} (h : (match get (setO id ob s).T id with
    | some ob => K v [(id, ob)]
    | none => none) = some r) : K v [(id, ob)] = some r := by
  simp only [setO] at h
  rw [get_cons, if_pos rfl] at h
  exact h
theorem fx_alloc {o : Oper} {t : TypeId} {s : St} {K : V → Tab → Option ρ} (ho : o.op = .alloc t) (h : opK G o s (fun v s' => match get s'.T (o.dst.getD 999) with
    | some ob => K v [(o.dst.getD 999, ob)]
    | none => none) = some r) : ∃ v upd, K v upd = some r ∧ FxOk G o s v upd := by
  obtain ⟨dst, op, ty, pos, aft, gd⟩ := o
  simp only at ho
  subst ho
  simp only [opK] at h
  split at h
  · rename_i n u ht
    rcases ble_of h with ⟨_, h'⟩ | ⟨hs, h'⟩
    · cases h'
    · split at h'
      case h_2 => cases h'
      rename_i s1 hn
      obtain ⟨hf, rfl⟩ := newO_some hn
      exact ⟨_, _, at_new h', fx_new hf fun s' _ hn' ρ' K' => by simp only [opK, ht, hs, cond_false, newO_of hn']⟩
  · rename_i τ hno ht
    split at h
    case h_2 => cases h
    rename_i s1 hn
    obtain ⟨hf, rfl⟩ := newO_some hn
    refine ⟨_, _, at_new h, fx_new hf fun s' _ hn' ρ' K' => ?_⟩
    simp only [opK, ht, newO_of hn']
  · cases h
theorem fx_box {o : Oper} {t : TypeId} {x : Operand} {s : St} {K : V → Tab → Option ρ} (ho : o.op = .box t x) (h : opK G o s (fun v s' => match get s'.T (o.dst.getD 999) with
    | some ob => K v [(o.dst.getD 999, ob)]
    | none => none) = some r) : ∃ v upd, K v upd = some r ∧ FxOk G o s v upd := by
  obtain ⟨dst, op, ty, pos, aft, gd⟩ := o
  simp only at ho
  subst ho
  simp only [opK] at h
  split at h
  case h_2 => cases h
  rename_i τ ht
  split at h
  · rename_i n u xs hv
    split at h
    case h_2 => cases h
    rename_i s1 hn
    obtain ⟨hf, rfl⟩ := newO_some hn
    exact ⟨_, _, at_new h, fx_new hf fun s' hl hn' ρ' K' => by
      have e := hl.ev x (by simp [Op.operands])
      simp only [opK, ht, e, hv, newO_of hn']⟩
  · rename_i v hno hv
    split at h
    case h_2 => cases h
    rename_i cs hcs
    rcases ble_of h with ⟨hb, h'⟩ | ⟨_, h'⟩
    case inr => cases h'
    split at h'
    case h_2 => cases h'
    rename_i s1 hn
    obtain ⟨hf, rfl⟩ := newO_some hn
    refine ⟨_, _, at_new h', fx_new hf fun s' hl hn' ρ' K' => ?_⟩
    have e := hl.ev x (by simp [Op.operands])
    simp only [opK, ht, e, hv, hcs, hb, cond_true, newO_of hn']
  · cases h
theorem fx_make {o : Oper} {t : TypeId} {x y : Operand} {s : St} {K : V → Tab → Option ρ} (ho : o.op = .makeSlice t x y) (h : opK G o s (fun v s' => match get s'.T (o.dst.getD 999) with
    | some ob => K v [(o.dst.getD 999, ob)]
    | none => none) = some r) : ∃ v upd, K v upd = some r ∧ FxOk G o s v upd := by
  obtain ⟨dst, op, ty, pos, aft, gd⟩ := o
  simp only at ho
  subst ho
  simp only [opK] at h
  split at h
  case h_2 => cases h
  rename_i e0 u hE
  split at h
  case h_2 => cases h
  rename_i n hn0
  split at h
  case h_2 => cases h
  rename_i m hm0
  rcases ble_of h with ⟨_, h'⟩ | ⟨hb, h'⟩
  · cases h'
  · split at h'
    case isFalse => cases h'
    rename_i hcond
    split at h'
    case h_2 => cases h'
    rename_i s1 hn
    obtain ⟨hf, rfl⟩ := newO_some hn
    refine ⟨_, _, at_new h', fx_new hf fun s' hl hn' ρ' K' => ?_⟩
    have e1 := hl.evI (x := x) (by simp [Op.operands])
    have e2 := hl.evI (x := y) (by simp [Op.operands])
    simp only [opK, hE, e1, hn0, e2, hm0, hb, cond_false, if_pos hcond, newO_of hn']
theorem fx_buildSlice {o : Oper} {t : TypeId} {len : Nat} {parts : Array (Nat × Operand)} {s : St} {K : V → Tab → Option ρ} (ho : o.op = .buildSlice t len parts) (hid : (opIds s o.op.operands.toList).isEmpty = true) (h : opK G o s (fun v s' => match get s'.T (o.dst.getD 999) with
    | some ob => K v [(o.dst.getD 999, ob)]
    | none => none) = some r) : ∃ v upd, K v upd = some r ∧ FxOk G o s v upd := by
  obtain ⟨dst, op, ty, pos, aft, gd⟩ := o
  simp only at ho
  subst ho
  simp only [opK] at h
  split at h
  case h_2 => cases h
  rename_i e0 u hE
  rcases ble_of h with ⟨hb, h'⟩ | ⟨_, h'⟩
  case inr => cases h'
  split at h'
  case h_2 => cases h'
  rename_i vs hvs
  split at h'
  case h_2 => cases h'
  rename_i css hcss
  have hmem : ∀ y ∈ parts.toList.map (·.2), y ∈ (Op.buildSlice t len parts).operands := fun y hy => by
    simp only [Op.operands]
    exact List.mem_toArray.2 hy
  have hno : idsOf css.flatten = [] := cellss_noid (s := s) hcss fun v hv => by
    obtain ⟨y, hy, hyv⟩ := evAll_mem hvs v hv
    exact opIds_nil hid y (by simpa using hmem y hy) v hyv
  rw [hno] at h'
  simp only [freezeAll] at h'
  split at h'
  case h_2 => cases h'
  rename_i xs hxs
  split at h'
  case h_2 => cases h'
  rename_i s2 hn
  obtain ⟨hf, rfl⟩ := newO_some hn
  refine ⟨_, _, at_new h', fx_new hf fun s' hl hn' ρ' K' => ?_⟩
  have e1 : evAll s' (parts.toList.map (·.2)) = some vs := by rw [Like.evAll fun y hy => hl.ev y (hmem y hy)]; exact hvs
  have e2 : unflatL s'.T u css = some xs := by rw [unflatL_noid hno]; exact hxs
  have e3 : alOfs s'.T css = alOfs s.T css := alOfs_noid hno
  simp only [opK, hE, hb, cond_true, e1, hcss, hno, freezeAll, e2, e3, newO_of hn']

theorem fx_store {o : Oper} {t : TypeId} {x y : Operand} {s : St} {K : V → Tab → Option ρ} (ho : o.op = .store t x y) {id : Nat} (hx : (∃ off, ev s x = some (.pt id off)) ∨ ((∃ i off, ev s x = some (.oa id i off)) ∧ (opIds s [y]).isEmpty = true)) (h : opK G o s (fun v s' => match get s'.T id with
    | some ob => K v [(id, ob)]
    | none => none) = some r) : ∃ v upd, K v upd = some r ∧ FxOk G o s v upd := by
  obtain ⟨dst, op, ty, pos, aft, gd⟩ := o
  simp only at ho
  subst ho
  have mx : x ∈ (Op.store t x y).operands := by simp [Op.operands]
  have my : y ∈ (Op.store t x y).operands := by simp [Op.operands]
  simp only [opK] at h
  split at h
  case h_2 => cases h
  rename_i τ ht
  split at h
  case h_2 => cases h
  rename_i ad had
  split at h
  · rename_i n u xs hy
    split at h
    case h_2 => cases h
    rename_i id' 
    split at h
    case h_2 => cases h
    rename_i tt m u' ys hT
    rcases ble_of h with ⟨hb, h'⟩ | ⟨_, h'⟩
    case inr => cases h'
    have hid : id' = id := by
      rcases hx with ⟨off, hx⟩ | ⟨⟨i, off, hx⟩, _⟩ <;> rw [had] at hx <;> cases hx
      rfl
    subst hid
    refine ⟨_, _, at_set h', fx_set fun s' hl ρ' K' => ?_⟩
    have e1 := hl.ev x mx
    have e2 := hl.ev y my
    have e3 : get s'.T id' = get s.T id' := (hl.at mx had) id' (by simp [vIds])
    simp only [opK, ht, e1, had, e2, hy, e3, hT, hb, cond_true]
  · rename_i v hno hy
    split at h
    case h_2 => cases h
    rename_i cs hcs
    rcases ble_of h with ⟨hb, h'⟩ | ⟨_, h'⟩
    case inr => cases h'
    split at h'
    · rename_i id' i off
      have hid : id' = id := by
        rcases hx with ⟨off, hx⟩ | ⟨⟨i, off, hx⟩, _⟩ <;> rw [had] at hx <;> cases hx
        rfl
      subst hid
      have hnoid : idsOf cs = [] := by
        rcases hx with ⟨off, hx⟩ | ⟨_, hx⟩
        · rw [had] at hx; cases hx
        · rw [cellsOf_ids hcs]
          exact opIds_nil hx y (by simp) v hy
      rw [hnoid] at h'
      simp only [freezeAll, hy, hcs, had, hb, cond_true] at h'
      split at h'
      case h_2 => cases h'
      rename_i s2 hst
      -- the element that is written
      have key : ∃ ob, s2 = setO id' ob s ∧ ∀ s', get s'.T id' = get s.T id' → storeAt s' (.oa id' i off) cs = some (setO id' ob s') := by
        simp only [storeAt] at hst
        split at hst
        · rename_i e al tt xs hT
          split at hst
          case h_2 => cases hst
          rename_i xs' al' hel
          cases hst
          exact ⟨_, rfl, fun s' he => by simp only [storeAt, he, hT, setEl_noid (T := s.T) (T' := s'.T) hnoid, hel]⟩
        · rename_i al tt xs hT
          split at hst
          case h_2 => cases hst
          rename_i xs' al' hel
          rcases ble_of hst with ⟨hbb, hst⟩ | ⟨_, hst⟩
          case inr => cases hst
          cases hst
          exact ⟨_, rfl, fun s' he => by simp only [storeAt, he, hT, setEl_noid (T := s.T) (T' := s'.T) hnoid, hel, hbb, cond_true]⟩
        · rename_i ty2 n tt xs hT
          rcases ble_of hst with ⟨_, hst⟩ | ⟨hbb, hst⟩
          · cases hst
          · split at hst
            case h_2 => cases hst
            rename_i xs' al' hel
            cases hst
            exact ⟨_, rfl, fun s' he => by simp only [storeAt, he, hT, hbb, cond_false, setEl_noid (T := s.T) (T' := s'.T) hnoid, hel]⟩
        · cases hst
      obtain ⟨ob, rfl, hgen⟩ := key
      refine ⟨_, _, at_set h', fx_set fun s' hl ρ' K' => ?_⟩
      have e1 := hl.ev x mx
      have e2 := hl.ev y my
      have e3 := hgen s' ((hl.at mx had) id' (by simp [vIds]))
      simp only [opK, ht, e1, had, e2, hy, hcs, hb, cond_true, hnoid, freezeAll, e3]
    · rename_i hnoa
      split at h'
      case h_2 => cases h'
      rename_i s2 hst
      obtain ⟨off, hx⟩ : ∃ off, ev s x = some (.pt id off) := by
        rcases hx with hx | ⟨⟨i, off, hx⟩, _⟩
        · exact hx
        · rw [had] at hx
          cases hx
          exact absurd rfl (hnoa _ _ _)
      rw [had] at hx
      cases hx
      have key : ∃ ob, s2 = setO id ob s ∧ ∀ s', get s'.T id = get s.T id → storeAt s' (.pt id off) cs = some (setO id ob s') := by
        simp only [storeAt] at hst
        split at hst
        case h_2 => cases hst
        rename_i ty2 ds hT
        split at hst
        case h_2 => cases hst
        rename_i ds' hsp
        cases hst
        exact ⟨_, rfl, fun s' he => by simp only [storeAt, he, hT, hsp]⟩
      obtain ⟨ob, rfl, hgen⟩ := key
      refine ⟨_, _, at_set h', fx_set fun s' hl ρ' K' => ?_⟩
      have e1 := hl.ev x mx
      have e2 := hl.ev y my
      have e3 := hgen s' ((hl.at mx had) id (by simp [vIds]))
      simp only [opK, ht, e1, had, e2, hy, hcs, hb, cond_true, e3]
  · cases h

theorem fxK_ok {o : Oper} {s : St} {K : V → Tab → Option ρ} (h : fxK G o s K = some r) : ∃ v upd, K v upd = some r ∧ FxOk G o s v upd := by
  unfold fxK at h
  simp only [] at h
  rcases ble_of h with ⟨hp, h⟩ | ⟨_, h⟩
  · exact fx_pure hp h
  · split at h
    · rename_i ho; exact fx_alloc ho h
    · rename_i ho; exact fx_box ho h
    · rename_i ho; exact fx_make ho h
    · rename_i ho
      rcases ble_of h with ⟨hb, h⟩ | ⟨_, h⟩
      · exact fx_buildSlice ho hb h
      · cases h
    · rename_i ho
      split at h
      · rename_i hx; exact fx_store ho (.inl ⟨_, hx⟩) h
      · rename_i hx
        rcases ble_of h with ⟨hb, h⟩ | ⟨_, h⟩
        · exact fx_store ho (.inr ⟨⟨_, _, hx⟩, hb⟩) h
        · cases h
      · cases h
    · rename_i ho
      split at h
      · rename_i hc
        split at h
        case h_2 => cases h
        rename_i hF
        split at h
        case h_2 => cases h
        rename_i hvs
        exact fx_call ho hc hF hvs h
      · cases h
    · cases h
end
end Go.Proofs.YtkadllkeekoopaaGreat.Abs
end

section
namespace Go.Proofs.YtkadllkeekoopaaGreat.Abs
open Go.RowKit

/-! ## Sets of numbers as numbers -/
theorem inM_test (m i : Nat) : inM m i = m.testBit i := by
  unfold inM Nat.testBit
  have e : Nat.land (Nat.shiftRight m i) 1 = (m >>> i) &&& 1 := rfl
  rw [e, Nat.and_comm 1]
  have h : (m >>> i) &&& 1 = (m >>> i) % 2 := Nat.and_one_is_mod _
  rw [h]
  rcases Nat.mod_two_eq_zero_or_one (m >>> i) with h | h <;> rw [h] <;> rfl
theorem inM_lor {a b i : Nat} : inM (Nat.lor a b) i = (inM a i || inM b i) := by
  rw [inM_test, inM_test, inM_test]
  exact Nat.testBit_or a b i
theorem inM_one {k i : Nat} : inM (Nat.shiftLeft 1 k) i = decide (k = i) := by
  rw [inM_test]
  have e : Nat.shiftLeft 1 k = 2 ^ k := by
    show 1 <<< k = 2 ^ k
    rw [Nat.shiftLeft_eq, Nat.one_mul]
  rw [e, Nat.testBit_two_pow]
theorem inM_zero {i : Nat} : inM 0 i = false := by rw [inM_test]; exact Nat.zero_testBit i
noncomputable def allM (m n : Nat) : Bool := Nat.beq (Nat.land m (Nat.sub (Nat.shiftLeft 1 n) 1)) (Nat.sub (Nat.shiftLeft 1 n) 1)
theorem allM_spec {m n k : Nat} (h : allM m n = true) (hk : k < n) : inM m k = true := by
  have h := Nat.eq_of_beq_eq_true h
  have e : Nat.sub (Nat.shiftLeft 1 n) 1 = 2 ^ n - 1 := by
    show 1 <<< n - 1 = 2 ^ n - 1
    rw [Nat.shiftLeft_eq, Nat.one_mul]
  rw [e] at h
  have h2 : (m &&& (2 ^ n - 1)).testBit k = (2 ^ n - 1).testBit k := by
    have : m &&& (2 ^ n - 1) = 2 ^ n - 1 := h
    rw [this]
  rw [Nat.testBit_and, Nat.testBit_two_pow_sub_one] at h2
  rw [inM_test]
  simpa [hk] using h2
theorem sub_spec {g L : Nat} (h : Nat.beq (Nat.land g L) g = true) {j : Nat} (hj : inM g j = true) : inM L j = true := by
  have h : g &&& L = g := Nat.eq_of_beq_eq_true h
  rw [inM_test] at hj ⊢
  have : (g &&& L).testBit j = g.testBit j := by rw [h]
  rw [Nat.testBit_and, hj] at this
  simpa using this
theorem edM_spec {p : Ground → Bool} : ∀ {l : List Edge} {e : Edge}, e ∈ l → p e.ground = true → inM (edM p l) e.on = true
  | x :: l, e, h, hp => by
    simp only [edM]
    cases h with
    | head => rw [hp]; simp only [cond_true]; rw [inM_lor, inM_one]; simp
    | tail _ h =>
      have := edM_spec h hp
      cases p x.ground with
      | true => simp only [cond_true]; rw [inM_lor, this, Bool.or_true]
      | false => exact this
theorem cloOf_spec {ms : List Nat} {j : Nat} : ∀ {l : List Edge}, inM (cloOf ms l) j = true → ∃ e ∈ l, grAny e.ground = true ∧ (e.on = j ∨ inM (ms.getD e.on 0) j = true)
  | [], h => by rw [cloOf, inM_zero] at h; cases h
  | e :: l, h => by
    simp only [cloOf] at h
    cases hg : grAny e.ground with
    | true =>
      rw [hg] at h
      simp only [cond_true] at h
      rw [inM_lor, inM_lor, inM_one] at h
      simp only [Bool.or_eq_true, decide_eq_true_eq] at h
      rcases h with (h | h) | h
      · exact ⟨e, List.mem_cons_self, hg, .inl h⟩
      · exact ⟨e, List.mem_cons_self, hg, .inr h⟩
      · obtain ⟨e', h1, h2⟩ := cloOf_spec h
        exact ⟨e', List.mem_cons_of_mem _ h1, h2⟩
    | false =>
      rw [hg] at h
      obtain ⟨e', h1, h2⟩ := cloOf_spec (l := l) h
      exact ⟨e', List.mem_cons_of_mem _ h1, h2⟩
theorem clos_app : ∀ (l : List Oper) (ms : List Nat), ∃ t, clos l ms = ms ++ t
  | [], ms => ⟨[], by simp [clos]⟩
  | o :: l, ms => by
    obtain ⟨t, ht⟩ := clos_app l (ms ++ [cloOf ms o.after.toList])
    exact ⟨cloOf ms o.after.toList :: t, by rw [clos, ht, List.append_assoc]; rfl⟩
theorem clos_at : ∀ (l : List Oper) (ms : List Nat) (k : Nat) (o : Oper), l[k]? = some o → ∃ pre t, clos l ms = pre ++ cloOf pre o.after.toList :: t ∧ pre.length = ms.length + k
  | [], _, _, _, h => by simp at h
  | x :: l, ms, 0, o, h => by
    simp at h
    subst h
    obtain ⟨t, ht⟩ := clos_app l (ms ++ [cloOf ms x.after.toList])
    exact ⟨ms, t, by rw [clos, ht, List.append_assoc]; rfl, rfl⟩
  | x :: l, ms, k + 1, o, h => by
    obtain ⟨pre, t, h1, h2⟩ := clos_at l (ms ++ [cloOf ms x.after.toList]) k o (by simpa using h)
    exact ⟨pre, t, by rw [clos]; exact h1, by rw [h2]; simp; omega⟩
/-- What stands before, stands there by edges. -/
theorem clos_spec {l : List Oper} {k j : Nat} {o : Oper} (h : l[k]? = some o) (hj : inM ((clos l []).getD k 0) j = true) : ∃ e ∈ o.after.toList, grAny e.ground = true ∧ (e.on = j ∨ inM ((clos l []).getD e.on 0) j = true) := by
  obtain ⟨pre, t, h1, h2⟩ := clos_at l [] k o h
  have h2 : pre.length = k := by simpa using h2
  have e1 : (clos l []).getD k 0 = cloOf pre o.after.toList := by
    rw [h1, List.getD_eq_getElem?_getD, List.getElem?_append_right (by omega), h2]
    simp
  rw [e1] at hj
  obtain ⟨e, he, hg, h3⟩ := cloOf_spec hj
  refine ⟨e, he, hg, h3.imp id fun h => ?_⟩
  rw [List.getD_eq_getElem?_getD] at h ⊢
  by_cases hlt : e.on < pre.length
  · rw [h1, List.getElem?_append_left hlt]
    exact h
  · rw [List.getElem?_eq_none (by omega)] at h
    simp only [Option.getD_none] at h
    rw [inM_zero] at h
    cases h

/-! ## The test of a region's text -/
noncomputable def tmpsL : List Operand → List Nat
  | [] => []
  | .tmp t :: r => t :: tmpsL r
  | _ :: r => tmpsL r
noncomputable def looksL (l : List Oper) (o : Oper) : List Nat := match o.guard with
  | none => tmpsL o.op.operands.toList
  | some (j, _) => match l[j]? with
    | some oj => match oj.dst with
      | some d => d :: tmpsL o.op.operands.toList
      | none => tmpsL o.op.operands.toList
    | none => tmpsL o.op.operands.toList
noncomputable def awayB (d : Option Nat) (l : List Nat) : Bool := match d with
  | some d => !has l d
  | none => true
noncomputable def neB (d e : Option Nat) : Bool := match d, e with
  | some d, some e => !Nat.beq d e
  | _, _ => true
noncomputable def pairB (l : List Oper) (clo : Nat) (j : Nat) (oj oi : Oper) : Bool := (inM clo j || (awayB oj.dst (looksL l oi) && awayB oi.dst (looksL l oj))) && neB oj.dst oi.dst
noncomputable def pairsB (l : List Oper) (clo : Nat) (oi : Oper) : Nat → List Oper → Bool
  | _, [] => true
  | j, oj :: r => pairB l clo j oj oi && pairsB l clo oi (j + 1) r
noncomputable def edgesB (i : Nat) (o : Oper) : Bool := o.after.toList.all fun e => !grTxt e.ground || Nat.blt e.on i
noncomputable def edgesAll : Nat → List Oper → Bool
  | _, [] => true
  | i, o :: r => edgesB i o && edgesAll (i + 1) r
/-- Where those begin that stand behind all before them. -/
noncomputable def serial (ms : List Nat) : Nat → Nat
  | 0 => 0
  | n + 1 => bif allM (ms.getD n 0) n then serial ms n else n + 1
noncomputable def pairsAll (l : List Oper) (ms : List Nat) (m : Nat) : Nat → List Oper → Bool
  | _, [] => true
  | i, o :: r => bif Nat.blt i m then pairsB l (ms.getD i 0) o 0 (l.take i) && pairsAll l ms m (i + 1) r else true
noncomputable def pick1 (L : Nat) : Nat → List Nat → Option Nat
  | _, [] => none
  | i, g :: r => bif !inM L i && Nat.beq (Nat.land g L) g then some i else pick1 L (i + 1) r
noncomputable def greedy (gs : List Nat) : Nat → Nat → Nat
  | 0, L => L
  | f + 1, L => match pick1 L 0 gs with
    | some i => greedy gs f (Nat.lor L (Nat.shiftLeft 1 i))
    | none => L
noncomputable def gcMs (l : List Oper) : List Nat := l.map fun o => edM grGc o.after.toList
noncomputable def plainB (l : List Oper) : Bool := l.all fun o => o.after.toList.all fun e => grAny e.ground
noncomputable def regM (ops : Array Oper) : Option (List Nat × Nat) :=
  let l := ops.toList
  let ms := clos l []
  let m := serial ms l.length
  bif edgesAll 0 l && pairsAll l ms m 0 l && (plainB l || allM (greedy (gcMs l) l.length 0) l.length) then some (ms, m) else none

structure Calm (ops : Array Oper) (ms : List Nat) (m : Nat) : Prop where
  le : m ≤ ops.size
  msd : ms = clos ops.toList []
  edges : ∀ (i : Nat) o, ops[i]? = some o → ∀ e ∈ o.after.toList, grTxt e.ground = true → e.on < i
  pairs : ∀ (j i : Nat) oj oi, j < i → i < m → ops[j]? = some oj → ops[i]? = some oi → pairB ops.toList (ms.getD i 0) j oj oi = true
  rest : ∀ (i : Nat) o, m ≤ i → ops[i]? = some o → ∀ k, k < i → inM (ms.getD i 0) k = true
  gc : (∀ (i : Nat) o, ops[i]? = some o → ∀ e ∈ o.after.toList, grAny e.ground = true) ∨ allM (greedy (gcMs ops.toList) ops.size 0) ops.size = true
theorem edgesAll_spec : ∀ {l : List Oper} {i0 : Nat}, edgesAll i0 l = true → ∀ (k : Nat) o, l[k]? = some o → edgesB (i0 + k) o = true
  | [], _, _, k, o, h => by simp at h
  | x :: l, i0, hb, k, o, h => by
    simp only [edgesAll, Bool.and_eq_true] at hb
    cases k with
    | zero => simp at h; subst h; exact hb.1
    | succ k =>
      have := edgesAll_spec hb.2 k o (by simpa using h)
      rwa [show i0 + 1 + k = i0 + (k + 1) by omega] at this
theorem serial_spec {ms : List Nat} : ∀ {n : Nat}, serial ms n ≤ n ∧ ∀ i, serial ms n ≤ i → i < n → allM (ms.getD i 0) i = true
  | 0 => ⟨Nat.le_refl _, fun i _ h => by omega⟩
  | n + 1 => by
    simp only [serial]
    cases hb : allM (ms.getD n 0) n with
    | true =>
      obtain ⟨h1, h2⟩ := serial_spec (ms := ms) (n := n)
      refine ⟨by simp only [cond_true]; omega, fun i hi hn => ?_⟩
      simp only [cond_true] at hi
      by_cases e : i = n
      · rw [e]; exact hb
      · exact h2 i hi (by omega)
    | false => exact ⟨Nat.le_refl _, fun i hi hn => by simp only [cond_false] at hi; omega⟩
theorem pairsB_spec {l : List Oper} {clo : Nat} {oi : Oper} : ∀ {r : List Oper} {j0 : Nat}, pairsB l clo oi j0 r = true → ∀ (j : Nat) oj, r[j]? = some oj → pairB l clo (j0 + j) oj oi = true
  | [], _, _, j, oj, h => by simp at h
  | o :: r, j0, hp, j, oj, h => by
    simp only [pairsB, Bool.and_eq_true] at hp
    cases j with
    | zero =>
      simp at h
      subst h
      exact hp.1
    | succ j =>
      have := pairsB_spec hp.2 j oj (by simpa using h)
      rw [show j0 + 1 + j = j0 + (j + 1) by omega] at this
      exact this
theorem pairsAll_spec {l : List Oper} {ms : List Nat} {m : Nat} : ∀ {r : List Oper} {i0 : Nat}, pairsAll l ms m i0 r = true → ∀ (k : Nat) o, r[k]? = some o → i0 + k < m → pairsB l (ms.getD (i0 + k) 0) o 0 (l.take (i0 + k)) = true
  | [], _, _, k, o, h, _ => by simp at h
  | x :: r, i0, hb, k, o, h, hk => by
    simp only [pairsAll] at hb
    rw [Nat.blt_eq.mpr (show i0 < m by omega)] at hb
    simp only [cond_true, Bool.and_eq_true] at hb
    cases k with
    | zero => simp at h; subst h; exact hb.1
    | succ k =>
      have := pairsAll_spec hb.2 k o (by simpa using h) (by omega)
      rwa [show i0 + 1 + k = i0 + (k + 1) by omega] at this
theorem calm_of {ops : Array Oper} {ms : List Nat} {m : Nat} (h : regM ops = some (ms, m)) : Calm ops ms m := by
  unfold regM at h
  simp only [] at h
  cases hb : (edgesAll 0 ops.toList && pairsAll ops.toList (clos ops.toList []) (serial (clos ops.toList []) ops.toList.length) 0 ops.toList && (plainB ops.toList || allM (greedy (gcMs ops.toList) ops.toList.length 0) ops.toList.length)) with
  | false => rw [hb] at h; cases h
  | true =>
    rw [hb] at h
    simp only [cond_true, Option.some.injEq, Prod.mk.injEq] at h
    obtain ⟨rfl, rfl⟩ := h
    simp only [Bool.and_eq_true, Bool.or_eq_true] at hb
    obtain ⟨⟨h1, h2⟩, h3⟩ := hb
    have g : ∀ (i : Nat) o, ops[i]? = some o → ops.toList[i]? = some o := fun i o h => by simpa using h
    have hlen : ops.toList.length = ops.size := Array.length_toList
    obtain ⟨s1, s2⟩ := serial_spec (ms := clos ops.toList []) (n := ops.toList.length)
    refine ⟨by omega, rfl, fun i o ho e he hg => ?_, fun j i oj oi hji him hoj hoi => ?_, fun i o hi ho k hk => ?_, h3.imp (fun h i o ho e he => ?_) (fun h => by rw [hlen] at h; exact h)⟩
    · have := edgesAll_spec h1 i o (g i o ho)
      rw [Nat.zero_add] at this
      have := (List.all_eq_true.1 this) e he
      rw [hg] at this
      exact Nat.blt_eq.mp (by simpa using this)
    · have := pairsAll_spec h2 i oi (g i oi hoi) (by omega)
      rw [Nat.zero_add] at this
      have := pairsB_spec this j oj (by rw [List.getElem?_take, if_pos hji]; exact g j oj hoj)
      rwa [Nat.zero_add] at this
    · have hlt := (Array.getElem?_eq_some_iff.1 ho).1
      exact allM_spec (s2 i hi (by omega)) hk
    · have := (List.all_eq_true.1 h) o (List.mem_iff_getElem?.2 ⟨i, g i o ho⟩)
      exact (List.all_eq_true.1 this) e he

def Closed (ops : Array Oper) (D : Nat → Prop) : Prop := ∀ i o, D i → ops[i]? = some o → ∀ e ∈ o.after.toList, grAny e.ground = true → D e.on
/-- What stands before an operation that is there, is there. -/
theorem clo_in {ops : Array Oper} {ms : List Nat} {m : Nat} (C : Calm ops ms m) {D : Nat → Prop} (hc : Closed ops D) : ∀ (n i : Nat) (o : Oper), i < n → ops[i]? = some o → (∀ e ∈ o.after.toList, grAny e.ground = true → D e.on) → ∀ j, inM (ms.getD i 0) j = true → D j
  | 0, i, o, hi, _, _, j, _ => by omega
  | n + 1, i, o, hi, ho, hd, j, hj => by
    rw [C.msd] at hj
    obtain ⟨e, he, hg, h⟩ := clos_spec (l := ops.toList) (by simpa using ho) hj
    have hDe := hd e he hg
    rcases h with rfl | h
    · exact hDe
    · have hlt := C.edges i o ho e he (by cases hgr : e.ground <;> rw [hgr] at hg <;> first | rfl | cases hg)
      have hsz := (Array.getElem?_eq_some_iff.1 ho).1
      obtain ⟨o', ho'⟩ : ∃ o', ops[e.on]? = some o' := ⟨_, Array.getElem?_eq_getElem (by omega)⟩
      exact clo_in C hc n e.on o' (by omega) ho' (hc e.on o' hDe ho') j (by rw [C.msd]; exact h)
theorem clo_mem {ops : Array Oper} {ms : List Nat} {m : Nat} (C : Calm ops ms m) {D : Nat → Prop} (hc : Closed ops D) {i j : Nat} (hi : D i) (hlt : i < ops.size) (hj : inM (ms.getD i 0) j = true) : D j := by
  obtain ⟨o, ho⟩ : ∃ o, ops[i]? = some o := ⟨_, Array.getElem?_eq_getElem hlt⟩
  exact clo_in C hc (i + 1) i o (by omega) ho (hc i o hi ho) j hj
end Go.Proofs.YtkadllkeekoopaaGreat.Abs
end

section
namespace Go.Proofs.YtkadllkeekoopaaGreat.Abs
open Go.RowKit

section
variable {ρ : Type} {G : Ctx} {fr : Fr} {r : ρ}

/-! ## States that are the same to the eye -/
structure Same (s s1 : St) : Prop where
  env : ∀ t, get s1.env t = get s.env t
  T : s1.T = s.T
theorem Same.refl (s : St) : Same s s := ⟨fun _ => rfl, rfl⟩
theorem Same.ev {s s1 : St} (h : Same s s1) (x : Operand) : ev s1 x = ev s x := by
  cases x <;> simp only [Go.Proofs.YtkadllkeekoopaaGreat.Abs.ev]
  unfold getT
  rw [h.env]
theorem Same.opIds {s s1 : St} (h : Same s s1) : ∀ l : List Operand, opIds s1 l = opIds s l
  | [] => rfl
  | x :: l => by
    simp only [Go.Proofs.YtkadllkeekoopaaGreat.Abs.opIds]
    rw [h.ev, h.opIds l]
theorem Same.rdOf {s s1 : St} (h : Same s s1) (o : Oper) : rdOf s1 o = rdOf s o := by
  unfold Go.Proofs.YtkadllkeekoopaaGreat.Abs.rdOf
  split
  · rfl
  · rfl
  · exact h.opIds _
theorem FxOk.same {o : Oper} {s s1 : St} {v : V} {upd : Tab} (h : FxOk G o s1 v upd) (e : Same s s1) : FxOk G o s v upd := fun s' hl hf =>
  h s' ⟨fun x hx => (hl.ev x hx).trans (e.ev x).symm, fun id hi => by rw [e.rdOf] at hi; rw [e.T]; exact hl.ids id hi⟩ fun k hk hn => hf k hk (by rw [← e.T]; exact hn)
theorem lit_get {s : St} {o : Oper} {d : Nat} {b : Bool} (hd : o.dst = some d) (h : get s.env d = some (.c (.bool b))) : Same s (literalB s o b) := by
  refine ⟨fun t => ?_, by unfold literalB; split <;> rfl⟩
  simp only [literalB, hd, get_put]
  by_cases e : d = t
  · subst e; simp [h]
  · simp [e]
theorem putV_get {n : Nat} {s : St} {d : Option Nat} {v : V} (t : Nat) : get (putV n s d v).env t = if d = some t ∧ t < n then some v else get s.env t := by
  cases d with
  | none => simp [putV]
  | some d =>
    simp only [putV]
    cases hb : Nat.blt d n with
    | true =>
      have := Nat.blt_eq.mp hb
      simp only [cond_true, get_put]
      by_cases e : d = t
      · subst e; simp [this]
      · simp [e]
    | false =>
      have : ¬ d < n := fun h => by rw [Nat.blt_eq.mpr h] at hb; cases hb
      simp only [cond_false]
      by_cases e : d = t
      · subst e; simp [this]
      · simp [e]
theorem putV_T {n : Nat} {s : St} {d : Option Nat} {v : V} : (putV n s d v).T = s.T := by
  cases d with
  | none => rfl
  | some d =>
    simp only [putV]
    cases Nat.blt d n <;> rfl

/-! ## The canonical run -/
/-- What one operation comes to, where it stands. -/
def StepOk (G : Ctx) (ops : Array Oper) (o : Oper) (s : St) (v : V) (upd : Tab) (rd : List Nat) : Prop :=
  (FxOk G o s v upd ∧ rd = rdOf s o ∧ (∀ id ∈ rd, (get s.T id).isSome = true) ∧ match o.guard with
    | none => True
    | some (j, want) => ∃ oj dj, ops[j]? = some oj ∧ oj.dst = some dj ∧ dj < 1000000 ∧ get s.env dj = some (.c (.bool want))) ∨
  (v = .skip ∧ upd = [] ∧ rd = [] ∧ ∃ j want oj dj, o.guard = some (j, want) ∧ ops[j]? = some oj ∧ oj.dst = some dj ∧ dj < 1000000 ∧ (get s.env dj = some (.c (.bool (!want))) ∨ get s.env dj = some .skip))
def Disj (rdj wrj rd wr : List Nat) : Prop := (∀ x ∈ wrj, x ∉ rd ∧ x ∉ wr) ∧ ∀ x ∈ rdj, x ∉ wr
theorem meets_not {l m : List Nat} (h : meets l m = false) : ∀ x ∈ l, x ∉ m := by
  induction l with
  | nil => intro x hx; cases hx
  | cons y l ih =>
    simp only [meets, Bool.or_eq_false_iff] at h
    intro x hx hm
    cases hx with
    | head => rw [has_mem.2 hm] at h; cases h.1
    | tail _ hx => exact ih h.2 x hx hm
theorem logOk_spec {clo : Nat} {rd wr : List Nat} : ∀ {log : Log}, logOk clo rd wr log = true → ∀ j rdj wrj, (j, rdj, wrj) ∈ log → inM clo j = true ∨ Disj rdj wrj rd wr
  | [], _, _, _, _, h => by cases h
  | (k, a, b) :: log, h, j, rdj, wrj, hm => by
    simp only [logOk, Bool.and_eq_true, Bool.or_eq_true, Bool.not_eq_true', Bool.or_eq_false_iff] at h
    cases hm with
    | head => exact h.1.imp id fun h => ⟨fun x hx => ⟨meets_not h.1.1 x hx, meets_not h.1.2 x hx⟩, meets_not h.2⟩
    | tail _ hm => exact logOk_spec h.2 j rdj wrj hm
theorem keys_mem {α : Type} : ∀ {l : List (Nat × α)} {k : Nat}, k ∈ keys l ↔ (get l k).isSome = true
  | [], k => by simp [keys, get]
  | (i, x) :: l, k => by
    simp only [keys, List.mem_cons, get_cons, keys_mem]
    by_cases e : i = k
    · simp [e]
    · rw [if_neg e]
      constructor
      · rintro (h | h)
        · exact absurd h.symm e
        · exact h
      · exact .inr
theorem allIn_spec {T : Tab} : ∀ {l : List Nat}, allIn T l = true → ∀ id ∈ l, (get T id).isSome = true
  | [], _, _, h => by cases h
  | i :: l, h, id, hm => by
    simp only [allIn, Bool.and_eq_true] at h
    cases hm with
    | head => exact h.1
    | tail _ hm => exact allIn_spec h.2 id hm
theorem fxStep_spec {clo i : Nat} {log : Log} {o : Oper} {s : St} {K : Log → St → Option ρ} (h : fxStep G clo i log o s K = some r) : ∃ v upd, FxOk G o s v upd ∧ (∀ id ∈ rdOf s o, (get s.T id).isSome = true) ∧
    (∀ j rdj wrj, (j, rdj, wrj) ∈ log → inM clo j = true ∨ Disj rdj wrj (rdOf s o) (keys upd)) ∧ K ((i, rdOf s o, keys upd) :: log) (putV G.n ⟨s.env, apply upd s.T⟩ o.dst v) = some r := by
  obtain ⟨v, upd, hk, hf⟩ := fxK_ok h
  rcases ble_of hk with ⟨hb, hk⟩ | ⟨_, hk⟩
  case inr => cases hk
  simp only [Bool.and_eq_true] at hb
  exact ⟨v, upd, hf, allIn_spec hb.1, logOk_spec hb.2, hk⟩
/-- The states that the run in the text's order passes. -/
structure Trace (G : Ctx) (ops : Array Oper) (ms : List Nat) (m : Nat) (st : Nat → St) (rd wr : Nat → List Nat) : Prop where
  step : ∀ (i : Nat) o, i < m → ops[i]? = some o → ∃ v upd, StepOk G ops o (st i) v upd (rd i) ∧ wr i = keys upd ∧ (∀ t, get (st (i + 1)).env t = if o.dst = some t ∧ t < G.n then some v else get (st i).env t) ∧ ∀ k, get (st (i + 1)).T k = (get upd k).or (get (st i).T k)
  apart : ∀ j i, j < i → i < m → inM (ms.getD i 0) j = true ∨ Disj (rd j) (wr j) (rd i) (wr i)
theorem getT_lt {e : Env} {i : Nat} {v : V} (h : getT e i = some v) : i < 1000000 ∧ get e i = some v := getT_get h
def Run (G : Ctx) (ops : Array Oper) (ms : List Nat) (m : Nat) (K : St → Option ρ) (r : ρ) (l : List Oper) (i0 : Nat) (s : St) (log : Log) : Prop :=
    ∃ (st : Nat → St) (rd wr : Nat → List Nat), st 0 = s ∧ (∀ (k : Nat) o, k < m - i0 → l[k]? = some o → ∃ v upd, StepOk G ops o (st k) v upd (rd k) ∧ wr k = keys upd ∧ (∀ t, get (st (k + 1)).env t = if o.dst = some t ∧ t < G.n then some v else get (st k).env t) ∧ ∀ q, get (st (k + 1)).T q = (get upd q).or (get (st k).T q)) ∧
      (∀ j rdj wrj, (j, rdj, wrj) ∈ log → ∀ k, k < m - i0 → inM (ms.getD (i0 + k) 0) j = true ∨ Disj rdj wrj (rd k) (wr k)) ∧
      (∀ j k, j < k → k < m - i0 → inM (ms.getD (i0 + k) 0) (i0 + j) = true ∨ Disj (rd j) (wr j) (rd k) (wr k)) ∧ aOps G ops (l.drop (m - i0)) (st (m - i0)) K = some r
theorem trace_of {ops : Array Oper} {ms : List Nat} {m : Nat} {K : St → Option ρ} : ∀ (l : List Oper) (i0 : Nat) (s : St) (log : Log), (∀ (k : Nat) o, l[k]? = some o → ops[i0 + k]? = some o) → i0 ≤ m → m ≤ i0 + l.length → aOpsD G ops ms m i0 log l s K = some r →
    Run G ops ms m K r l i0 s log
  | [], i0, s, log, _, h1, h2, h => by
    have : m - i0 = 0 := by simp at h2; omega
    simp only [aOpsD] at h
    unfold Run
    rw [this]
    exact ⟨fun _ => s, fun _ => [], fun _ => [], rfl, fun k o hk _ => by omega, fun _ _ _ _ k hk => by omega, fun j k _ hk => by omega, by simpa [aOps] using h⟩
  | o :: l, i0, s, log, hl, h1, h2, h => by
    by_cases hlt : i0 < m
    · simp only [aOpsD, Nat.blt_eq.mpr hlt, cond_true] at h
      have hm1 : m - i0 = (m - (i0 + 1)) + 1 := by omega
      have hl' : ∀ (k : Nat) o, l[k]? = some o → ops[i0 + 1 + k]? = some o := fun k o hk => by
        have := hl (k + 1) o (by simpa using hk)
        rwa [show i0 + 1 + k = i0 + (k + 1) by omega]
      -- one step, then the others
      have go : ∀ s1 v upd rd0 log', StepOk G ops o s v upd rd0 → (∀ t, get s1.env t = if o.dst = some t ∧ t < G.n then some v else get s.env t) → (∀ q, get s1.T q = (get upd q).or (get s.T q)) → (∀ j rdj wrj, (j, rdj, wrj) ∈ log → inM (ms.getD i0 0) j = true ∨ Disj rdj wrj rd0 (keys upd)) → (∀ x, x ∈ log → x ∈ log') → ((i0, rd0, keys upd) ∈ log' ∨ (rd0 = [] ∧ upd = [])) → aOpsD G ops ms m (i0 + 1) log' l s1 K = some r →
          Run G ops ms m K r (o :: l) i0 s log := fun s1 v upd rd0 log' hs he hT hd hsub hin hr => by
        obtain ⟨st, rd, wr, e0, e1, e2, e3, e4⟩ := trace_of l (i0 + 1) s1 log' hl' (by omega) (by simp at h2; omega) hr
        refine ⟨fun k => match k with | 0 => s | k + 1 => st k, fun k => match k with | 0 => rd0 | k + 1 => rd k, fun k => match k with | 0 => keys upd | k + 1 => wr k, rfl, fun k o' hk ho => ?_, fun j rdj wrj hm k hk => ?_, fun j k hjk hk => ?_, ?_⟩
        · cases k with
          | zero =>
            simp at ho
            subst ho
            exact ⟨v, upd, hs, rfl, fun t => by
              show get (st 0).env t = _
              rw [e0]
              exact he t, fun q => by
              show get (st 0).T q = _
              rw [e0]
              exact hT q⟩
          | succ k => exact e1 k o' (by omega) (by simpa using ho)
        · cases k with
          | zero => exact hd j rdj wrj hm
          | succ k =>
            have := e2 j rdj wrj (hsub _ hm) k (by omega)
            rwa [show i0 + 1 + k = i0 + (k + 1) by omega] at this
        · cases k with
          | zero => omega
          | succ k =>
            cases j with
            | zero =>
              rcases hin with hin | ⟨h3, h4⟩
              · have := e2 _ _ _ hin k (by omega)
                rwa [show i0 + 1 + k = i0 + (k + 1) by omega] at this
              · subst h3 h4
                exact .inr ⟨fun x hx => (by simp [keys] at hx), fun x hx => (by cases hx)⟩
            | succ j =>
              have := e3 j k (by omega) (by omega)
              rwa [show i0 + 1 + k = i0 + (k + 1) by omega, show i0 + 1 + j = i0 + (j + 1) by omega] at this
        · rw [hm1]
          exact e4
      have doit : ∀ s0, Same s s0 → (fxStep G (ms.getD i0 0) i0 log o s0 fun log' s' => aOpsD G ops ms m (i0 + 1) log' l s' K) = some r → (match o.guard with
          | none => True
          | some (j, want) => ∃ oj dj, ops[j]? = some oj ∧ oj.dst = some dj ∧ dj < 1000000 ∧ get s.env dj = some (.c (.bool want))) → Run G ops ms m K r (o :: l) i0 s log := fun s0 hs0 hx hg => by
        obtain ⟨v, upd, hf, hin, hlog, hk⟩ := fxStep_spec hx
        rw [hs0.rdOf] at hin hlog hk
        exact go _ v upd _ _ (.inl ⟨hf.same hs0, rfl, fun id hid => by rw [← hs0.T]; exact hin id hid, hg⟩) (fun t => by rw [putV_get]; simp only []; rw [hs0.env]) (fun q => by rw [putV_T]; simp only [Go.Proofs.YtkadllkeekoopaaGreat.Abs.apply]; rw [get_app_or, hs0.T]) hlog (fun x hx => List.mem_cons_of_mem _ hx) (.inl List.mem_cons_self) hk
      have pass : ∀ s0, Same s s0 → aOpsD G ops ms m (i0 + 1) log l (putV G.n s0 o.dst .skip) K = some r → (∃ j want oj dj, o.guard = some (j, want) ∧ ops[j]? = some oj ∧ oj.dst = some dj ∧ dj < 1000000 ∧ (get s.env dj = some (.c (.bool (!want))) ∨ get s.env dj = some .skip)) → Run G ops ms m K r (o :: l) i0 s log := fun s0 hs0 hx hg =>
        go _ .skip [] [] log (.inr ⟨rfl, rfl, rfl, hg⟩) (fun t => by rw [putV_get, hs0.env]) (fun q => by rw [putV_T, hs0.T]; rfl) (fun _ _ _ _ => .inr ⟨fun x _ => ⟨fun h => (by cases h), fun h => (by simp [keys] at h)⟩, fun x _ h => (by simp [keys] at h)⟩) (fun x hx => hx) (.inr ⟨rfl, rfl⟩) hx
      split at h
      · rename_i hg
        exact doit s (.refl s) h (by rw [hg]; trivial)
      · rename_i j want hg
        split at h
        case h_2 => cases h
        rename_i oj hj
        split at h
        case h_2 => cases h
        rename_i dj hdj
        split at h
        · rename_i b hb
          obtain ⟨hlt', hb'⟩ := getT_get hb
          have hs0 := lit_get hdj hb'
          cases b with
          | true =>
            simp only [if_true] at h
            cases want with
            | true => exact doit _ hs0 h (by rw [hg]; exact ⟨oj, dj, hj, hdj, hlt', hb'⟩)
            | false => exact pass _ hs0 h ⟨j, false, oj, dj, hg, hj, hdj, hlt', .inl hb'⟩
          | false =>
            simp only [Bool.false_eq_true, if_false] at h
            cases want with
            | true => exact pass _ hs0 h ⟨j, true, oj, dj, hg, hj, hdj, hlt', .inl hb'⟩
            | false => exact doit _ hs0 h (by rw [hg]; exact ⟨oj, dj, hj, hdj, hlt', hb'⟩)
        · rename_i hb
          obtain ⟨hlt', hb'⟩ := getT_get hb
          exact pass s (.refl s) h ⟨j, want, oj, dj, hg, hj, hdj, hlt', .inr hb'⟩
        · cases h
    · have hmi : m - i0 = 0 := by omega
      have hb : Nat.blt i0 m = false := by
        rw [← Bool.not_eq_true, Nat.blt_eq]
        exact hlt
      simp only [aOpsD, hb, cond_false] at h
      unfold Run
      rw [hmi]
      exact ⟨fun _ => s, fun _ => [], fun _ => [], rfl, fun k o hk _ => by omega, fun _ _ _ _ k hk => by omega, fun j k _ hk => by omega, h⟩
end
end Go.Proofs.YtkadllkeekoopaaGreat.Abs
end

section
namespace Go.Proofs.YtkadllkeekoopaaGreat.Abs
open Go.RowKit

section
variable {ρ : Type} {G : Ctx} {fr : Fr} {r : ρ} {ops : Array Oper} {ms : List Nat} {m : Nat} {st : Nat → St} {rd wr : Nat → List Nat}

/-- Operation j writes slot t. -/
def W (G : Ctx) (ops : Array Oper) (j t : Nat) : Prop := ∃ o, ops[j]? = some o ∧ o.dst = some t ∧ t < G.n
theorem W.uniq (C : Calm ops ms m) {j i t : Nat} (hj : j < m) (hi : i < m) (h : W G ops j t) (k : W G ops i t) : j = i := by
  obtain ⟨oj, h1, h2, _⟩ := h
  obtain ⟨oi, k1, k2, _⟩ := k
  rcases Nat.lt_trichotomy j i with hlt | e | hlt
  · have := C.pairs j i oj oi hlt hi h1 k1
    simp only [pairB, Bool.and_eq_true, h2, k2, neB, Nat.beq_refl] at this
    cases this.2
  · exact e
  · have := C.pairs i j oi oj hlt hj k1 h1
    simp only [pairB, Bool.and_eq_true, h2, k2, neB, Nat.beq_refl] at this
    cases this.2
theorem op_at (C : Calm ops ms m) {i : Nat} (hi : i < m) : ∃ o, ops[i]? = some o := ⟨_, Array.getElem?_eq_getElem (Nat.lt_of_lt_of_le hi C.le)⟩
theorem tr_next (C : Calm ops ms m) (Tr : Trace G ops ms m st rd wr) {i : Nat} (hi : i < m) {t : Nat} (h : ¬ W G ops i t) : get (st (i + 1)).env t = get (st i).env t := by
  obtain ⟨o, ho⟩ := op_at C hi
  obtain ⟨v, upd, _, _, hv, _⟩ := Tr.step i o hi ho
  rw [hv, if_neg]
  exact fun hd => h ⟨o, ho, hd.1, hd.2⟩
theorem tr_no (C : Calm ops ms m) (Tr : Trace G ops ms m st rd wr) {t : Nat} : ∀ {i : Nat}, i ≤ m → (∀ j, j < i → ¬ W G ops j t) → get (st i).env t = get (st 0).env t
  | 0, _, _ => rfl
  | i + 1, hi, h => by
    rw [tr_next C Tr (by omega) (h i (by omega))]
    exact tr_no C Tr (by omega) fun j hj => h j (by omega)
theorem tr_yes (C : Calm ops ms m) (Tr : Trace G ops ms m st rd wr) {j t : Nat} (hj : W G ops j t) : ∀ {i : Nat}, j < i → i ≤ m → get (st i).env t = get (st (j + 1)).env t
  | 0, h, _ => by omega
  | i + 1, h, hi => by
    by_cases e : j = i
    · rw [e]
    · rw [tr_next C Tr (by omega) (fun hw => e (W.uniq C (by omega) (by omega) hj hw))]
      exact tr_yes C Tr hj (by omega) (by omega)
theorem tab_next (C : Calm ops ms m) (Tr : Trace G ops ms m st rd wr) {i : Nat} (hi : i < m) {id : Nat} (h : id ∉ wr i) : get (st (i + 1)).T id = get (st i).T id := by
  obtain ⟨o, ho⟩ := op_at C hi
  obtain ⟨v, upd, _, hw, _, hT⟩ := Tr.step i o hi ho
  rw [hT]
  rw [hw, keys_mem] at h
  cases hg : get upd id with
  | none => rfl
  | some ob => rw [hg] at h; exact absurd rfl h
theorem tab_no (C : Calm ops ms m) (Tr : Trace G ops ms m st rd wr) {id : Nat} : ∀ {i : Nat}, i ≤ m → (∀ j, j < i → id ∉ wr j) → get (st i).T id = get (st 0).T id
  | 0, _, _ => rfl
  | i + 1, hi, h => by
    rw [tab_next C Tr (by omega) (h i (by omega))]
    exact tab_no C Tr (by omega) fun j hj => h j (by omega)
theorem tab_yes (C : Calm ops ms m) (Tr : Trace G ops ms m st rd wr) {j id : Nat} : ∀ {i : Nat}, j < i → i ≤ m → (∀ k, j < k → k < i → id ∉ wr k) → get (st i).T id = get (st (j + 1)).T id
  | 0, h, _, _ => by omega
  | i + 1, h, hi, hn => by
    by_cases e : j = i
    · rw [e]
    · rw [tab_next C Tr (by omega) (hn i (by omega) (by omega))]
      exact tab_yes C Tr (by omega) (by omega) fun k h1 h2 => hn k h1 (by omega)
/-- The last of those before i that has a property. -/
theorem last_of (p : Nat → Prop) : ∀ i : Nat, (∀ j, j < i → ¬ p j) ∨ ∃ j, j < i ∧ p j ∧ ∀ k, j < k → k < i → ¬ p k
  | 0 => .inl fun j hj => by omega
  | i + 1 => by
    by_cases h : p i
    · exact .inr ⟨i, by omega, h, fun k h1 h2 => by omega⟩
    · rcases last_of p i with h1 | ⟨j, h1, h2, h3⟩
      · refine .inl fun j hj => ?_
        by_cases e : j = i
        · rw [e]; exact h
        · exact h1 j (by omega)
      · refine .inr ⟨j, by omega, h2, fun k hk1 hk2 => ?_⟩
        by_cases e : k = i
        · rw [e]; exact h
        · exact h3 k hk1 (by omega)

/-- The state in which the operations of D have been carried out. -/
structure At (G : Ctx) (ops : Array Oper) (m : Nat) (st : Nat → St) (wr : Nat → List Nat) (D : Nat → Prop) (s : St) : Prop where
  T : ∀ id, (∀ j, D j → j < m → id ∉ wr j) → get s.T id = get (st 0).T id
  Tw : ∀ j id, D j → j < m → id ∈ wr j → (∀ k, D k → k < m → j < k → id ∉ wr k) → get s.T id = get (st (j + 1)).T id
  yes : ∀ j t, D j → j < m → W G ops j t → get s.env t = get (st m).env t
  no : ∀ t, (∀ j, D j → j < m → ¬ W G ops j t) → get s.env t = get (st 0).env t
theorem away_not {d : Option Nat} {l : List Nat} {t : Nat} (h : awayB d l = true) (hd : d = some t) : t ∉ l := by
  subst hd
  simp only [awayB, Bool.not_eq_true'] at h
  intro hm
  rw [has_mem.2 hm] at h
  cases h
theorem look_at (C : Calm ops ms m) (Tr : Trace G ops ms m st rd wr) {D : Nat → Prop} {s : St} (A : At G ops m st wr D s) (hc : Closed ops D) {i : Nat} (hi : i < m) {o : Oper} (ho : ops[i]? = some o) (hn : ¬ D i) (hd : ∀ e ∈ o.after.toList, grAny e.ground = true → D e.on) :
    ∀ t ∈ looksL ops.toList o, get s.env t = get (st i).env t := by
  intro t ht
  by_cases h : ∃ j, D j ∧ j < m ∧ W G ops j t
  · obtain ⟨j, hDj, hjm, hw⟩ := h
    rw [A.yes j t hDj hjm hw]
    have hne : j ≠ i := fun e => hn (e ▸ hDj)
    rcases Nat.lt_or_gt_of_ne hne with hlt | hgt
    · rw [tr_yes C Tr hw hjm (Nat.le_refl m), tr_yes C Tr hw hlt (by omega)]
    · exfalso
      obtain ⟨oj, h1, h2, _⟩ := hw
      have := C.pairs i j o oj hgt hjm ho h1
      simp only [pairB, Bool.and_eq_true, Bool.or_eq_true] at this
      rcases this.1 with hb | ⟨_, hb⟩
      · exact hn (clo_mem C hc hDj (Nat.lt_of_lt_of_le hjm C.le) hb)
      · exact away_not hb h2 ht
  · rw [A.no t (fun j hD hj hw => h ⟨j, hD, hj, hw⟩)]
    refine (tr_no C Tr (by omega) fun k hk hw => ?_).symm
    obtain ⟨ok, h1, h2, h3⟩ := hw
    have := C.pairs k i ok o hk hi h1 ho
    simp only [pairB, Bool.and_eq_true, Bool.or_eq_true] at this
    rcases this.1 with hb | ⟨hb, _⟩
    · exact h ⟨k, clo_in C hc (i + 1) i o (by omega) ho hd k hb, by omega, ok, h1, h2, h3⟩
    · exact away_not hb h2 ht
/-- What an operation touches is as it is in the run in the text's order. -/
theorem tab_at (C : Calm ops ms m) (Tr : Trace G ops ms m st rd wr) {D : Nat → Prop} {s : St} (A : At G ops m st wr D s) (hc : Closed ops D) {i : Nat} (hi : i < m) {o : Oper} (ho : ops[i]? = some o) (hn : ¬ D i) (hd : ∀ e ∈ o.after.toList, grAny e.ground = true → D e.on) {id : Nat} (hid : id ∈ rd i ∨ id ∈ wr i) :
    get s.T id = get (st i).T id := by
  -- those that have been carried out and write it stand before i
  have hbefore : ∀ j, D j → j < m → id ∈ wr j → j < i := fun j hDj hjm hw => by
    have hne : j ≠ i := fun e => hn (e ▸ hDj)
    rcases Nat.lt_or_gt_of_ne hne with h | h
    · exact h
    · exfalso
      rcases Tr.apart i j h hjm with hb | hb
      · exact hn (clo_mem C hc hDj (Nat.lt_of_lt_of_le hjm C.le) hb)
      · rcases hid with hid | hid
        · exact hb.2 id hid hw
        · exact (hb.1 id hid).2 hw
  have hthere : ∀ j, j < i → id ∈ wr j → D j := fun j hj hw => by
    rcases Tr.apart j i hj hi with hb | hb
    · exact clo_in C hc (i + 1) i o (by omega) ho hd j hb
    · exfalso
      rcases hid with hid | hid
      · exact (hb.1 id hw).1 hid
      · exact (hb.1 id hw).2 hid
  rcases last_of (fun j => id ∈ wr j) i with h | ⟨j, h1, h2, h3⟩
  · rw [tab_no C Tr (by omega) h]
    exact A.T id fun j hD hjm hw => h j (hbefore j hD hjm hw) hw
  · rw [tab_yes C Tr h1 (by omega) h3]
    exact A.Tw j id (hthere j h1 h2) (by omega) h2 fun k hD hkm hjk hw => h3 k hjk (hbefore k hD hkm hw) hw
theorem tmpsL_mem : ∀ {l : List Operand} {t : Nat}, Operand.tmp t ∈ l → t ∈ tmpsL l
  | x :: l, t, h => by
    cases h with
    | head => exact List.mem_cons_self
    | tail _ h =>
      have := tmpsL_mem h
      cases x <;> simp only [tmpsL] <;> first | exact List.mem_cons_of_mem _ this | exact this
theorem looks_ops {l : List Oper} {o : Oper} {t : Nat} (h : t ∈ tmpsL o.op.operands.toList) : t ∈ looksL l o := by
  unfold looksL
  split
  · exact h
  · split
    · split
      · exact List.mem_cons_of_mem _ h
      · exact h
    · exact h
theorem looks_guard {o oj : Oper} {j d : Nat} {want : Bool} (hg : o.guard = some (j, want)) (hj : ops[j]? = some oj) (hd : oj.dst = some d) : d ∈ looksL ops.toList o := by
  have hj' : ops.toList[j]? = some oj := by simpa using hj
  unfold looksL
  rw [hg]
  simp only [hj', hd]
  exact List.mem_cons_self

theorem calm_step (H : TIs fr.P G) (HC : ∀ f F, get G.calls f = some F → CallOk fr.P f F) (hn : G.n = fr.n) (C : Calm ops ms m) (Tr : Trace G ops ms m st rd wr) {Q : Exit → Act → World → Prop} {D : Nat → Prop} {s : St} (A : At G ops m st wr D s) (hc : Closed ops D) {i : Nat} (hi : i < m) {o : Oper} (ho : ops[i]? = some o) (hni : ¬ D i) (hd : ∀ e ∈ o.after.toList, grAny e.ground = true → D e.on)
    {σ : Nat → Value} {a : Act} {w : World} (R : RelS fr σ s a w) {Kp : Act → World → Prop} (hK : ∀ σ s a w, RelS fr σ s a w → At G ops m st wr (fun j => D j ∨ j = i) s → Kp a w) : wpOp fr.P ops Q i Kp a w := by
  obtain ⟨v, upd, hs, hwr, hv, hT⟩ := Tr.step i o hi ho
  have hlook := look_at C Tr A hc hi ho hni hd
  have htab := fun id hid => tab_at C Tr A hc hi ho hni hd (id := id) hid
  -- the state behind it
  have after : ∀ T', (∀ k, get T' k = (get upd k).or (get s.T k)) → At G ops m st wr (fun j => D j ∨ j = i) (putV G.n ⟨s.env, T'⟩ o.dst v) := fun T' hT' => by
    have hnotw : ∀ {id : Nat}, id ∉ wr i → get T' id = get s.T id := fun {id} h => by
      rw [hT']
      rw [hwr, keys_mem] at h
      cases hg : get upd id with
      | none => rfl
      | some ob => rw [hg] at h; exact absurd rfl h
    refine ⟨fun id hno => ?_, fun j id hj hjm hw hlast => ?_, fun j t hj hjm hw => ?_, fun t hno => ?_⟩
    · rw [putV_T]
      show get T' id = _
      rw [hnotw (hno i (.inr rfl) hi)]
      exact A.T id fun j hD hj => hno j (.inl hD) hj
    · rw [putV_T]
      show get T' id = _
      by_cases hwi : id ∈ wr i
      · -- the last that writes it is this one
        have e : j = i := by
          rcases hj with hD | h
          · exfalso
            have hne : j ≠ i := fun e => hni (e ▸ hD)
            rcases Nat.lt_or_gt_of_ne hne with h | h
            · exact hlast i (.inr rfl) hi h hwi
            · rcases Tr.apart i j h hjm with hb | hb
              · exact hni (clo_mem C hc hD (Nat.lt_of_lt_of_le hjm C.le) hb)
              · exact (hb.1 id hwi).2 hw
          · exact h
        subst e
        rw [hT', hT]
        rw [hwr, keys_mem] at hwi
        cases hg : get upd id with
        | none => rw [hg] at hwi; cases hwi
        | some ob => rfl
      · rw [hnotw hwi]
        rcases hj with hD | h
        · exact A.Tw j id hD hjm hw fun k hk => hlast k (.inl hk)
        · subst h; exact absurd hw hwi
    · rw [putV_get]
      by_cases e : o.dst = some t ∧ t < G.n
      · rw [if_pos e]
        have hwi : W G ops i t := ⟨o, ho, e.1, e.2⟩
        rw [tr_yes C Tr hwi hi (Nat.le_refl m), hv, if_pos e]
      · rw [if_neg e]
        rcases hj with hj | rfl
        · exact A.yes j t hj hjm hw
        · exfalso
          obtain ⟨o', h1, h2, h3⟩ := hw
          rw [ho] at h1
          cases h1
          exact e ⟨h2, h3⟩
    · rw [putV_get, if_neg (fun e => hno i (.inr rfl) hi ⟨o, ho, e.1, e.2⟩)]
      exact A.no t fun j hD hj => hno j (.inl hD) hj
  have doit : FxOk G o (st i) v upd → rd i = rdOf (st i) o → Region.wanted o (yielded ops a.tmps) = true → wpOp fr.P ops Q i Kp a w := fun hf hrd hw => by
    unfold wpOp
    simp only [ho]
    rw [if_pos hw]
    left
    have hlike : Like o (st i) s := ⟨fun x hx => by
      cases x with
      | tmp t =>
        have := hlook t (looks_ops (tmpsL_mem (by simpa using hx)))
        simp only [ev, getT, this]
      | _ => rfl, fun id hid => htab id (.inl (by rw [hrd]; exact hid))⟩
    obtain ⟨T', hop, hT'⟩ := hf s hlike fun k hk hn => by
      rw [htab k (.inr (by rw [hwr, keys_mem]; exact hk))]
      exact hn
    have h1 : opK G o s (fun v s' => some (v, s')) = some (v, ⟨s.env, T'⟩) := hop _ _
    refine opK_sound R H HC h1 _ _ fun v' s' σ' u w' hk R' hV => ?_
    cases hk
    refine hK σ' _ _ w' ?_ (after T' hT')
    rw [hn]
    exact R'.dest hV o.dst
  have pass : v = .skip → upd = [] → Region.wanted o (yielded ops a.tmps) = false → wpOp fr.P ops Q i Kp a w := fun hvs hup hw => by
    unfold wpOp
    simp only [ho]
    rw [if_neg (by rw [hw]; simp)]
    have := after s.T (fun k => by rw [hup]; rfl)
    subst hvs
    refine hK σ _ _ w ?_ this
    rw [hn]
    exact R.dest (v := .skip) rfl o.dst
  rcases hs with ⟨hf, hrd, _, hg⟩ | ⟨hvs, hup, _, j, want, oj, dj, hg, hj, hdj, hlt, hcase⟩
  · split at hg
    · rename_i hgd
      exact doit hf hrd (by simp [Region.wanted, hgd])
    · rename_i j want hgd
      obtain ⟨oj, dj, hj, hdj, hlt, hb⟩ := hg
      have hgs := hlook dj (looks_guard hgd hj hdj)
      rw [hb] at hgs
      have hgT := (getT_of (e := s.env) hlt).trans hgs
      have hy := yielded_bool hj hdj (R.envT hgT)
      exact doit hf hrd (by simp [Region.wanted, hgd, hy])
  · have hgs := hlook dj (looks_guard hg hj hdj)
    rcases hcase with hb | hb
    · rw [hb] at hgs
      have hgT := (getT_of (e := s.env) hlt).trans hgs
      have hy := yielded_bool hj hdj (R.envT hgT)
      exact pass hvs hup (by simp [Region.wanted, hg, hy])
    · rw [hb] at hgs
      have hgT := (getT_of (e := s.env) hlt).trans hgs
      have hy := yielded_skip hj hdj (R.envT hgT)
      exact pass hvs hup (by simp [Region.wanted, hg, hy])
end
end Go.Proofs.YtkadllkeekoopaaGreat.Abs
end

section
namespace Go.Proofs.YtkadllkeekoopaaGreat.Abs
open Go.RowKit

section
variable {ρ : Type} {G : Ctx} {fr : Fr} {r : ρ} {ops : Array Oper} {ms : List Nat} {m : Nat} {st : Nat → St} {rd wr : Nat → List Nat}

theorem RelS.congrE {σ : Nat → Value} {s s' : St} {a : Act} {w : World} (R : RelS fr σ s a w) (hT : ∀ i, get s'.T i = get s.T i) (h : ∀ t, get s'.env t = get s.env t) : RelS fr σ s' a w := by
  have R1 := R.congr (T' := s'.T) hT
  exact ⟨R1.kept, R1.fa, R1.dist, R1.objs, fun i v hi => R1.env i v (by rw [← h]; exact hi), R1.tmps, R1.small, R1.defers⟩
theorem aOps_step (H : TIs fr.P G) (HC : ∀ f F, get G.calls f = some F → CallOk fr.P f F) (hn : G.n = fr.n) {Q : Exit → Act → World → Prop} {K : St → Option ρ} {o : Oper} {l : List Oper} {i : Nat} (h0 : ops[i]? = some o) {σ : Nat → Value} {s : St} {a : Act} {w : World} (h : aOps G ops (o :: l) s K = some r) (R : RelS fr σ s a w)
    {Kp : Act → World → Prop} (hK : ∀ σ s a w, aOps G ops l s K = some r → RelS fr σ s a w → Kp a w) : wpOp fr.P ops Q i Kp a w := by
  have doit : ∀ s, RelS fr σ s a w → (opK G o s fun v s' => aOps G ops l (putV G.n s' o.dst v) K) = some r → Region.wanted o (yielded ops a.tmps) = true → wpOp fr.P ops Q i Kp a w := fun s R h hw => by
    unfold wpOp
    simp only [h0]
    rw [if_pos hw]
    left
    refine opK_sound R H HC h _ _ fun v s' σ' u w' hk R' hV => ?_
    refine hK σ' _ _ w' hk ?_
    rw [hn]
    exact R'.dest hV o.dst
  have pass : ∀ s, RelS fr σ s a w → aOps G ops l (putV G.n s o.dst .skip) K = some r → Region.wanted o (yielded ops a.tmps) = false → wpOp fr.P ops Q i Kp a w := fun s R h hw => by
    unfold wpOp
    simp only [h0]
    rw [if_neg (by rw [hw]; simp)]
    refine hK σ _ _ w h ?_
    rw [hn]
    exact R.dest (v := .skip) rfl o.dst
  rw [aOps] at h
  split at h
  · rename_i hg
    exact doit s R h (by simp [Region.wanted, hg])
  · rename_i j want hg
    split at h
    case h_2 => cases h
    rename_i oj hj
    split at h
    case h_2 => cases h
    rename_i dj hdj
    split at h
    · rename_i b hb
      have hy := yielded_bool hj hdj (R.envT hb)
      have hw : Region.wanted o (yielded ops a.tmps) = (b == want) := by
        simp only [Region.wanted, hg, hy]
        cases b <;> cases want <;> rfl
      cases b with
      | true =>
        simp only [if_true] at h
        have R' := R.lit hdj (getT_get hb).2
        cases want with
        | true => exact doit _ R' h (by rw [hw]; rfl)
        | false => exact pass _ R' h (by rw [hw]; rfl)
      | false =>
        simp only [Bool.false_eq_true, if_false] at h
        have R' := R.lit hdj (getT_get hb).2
        cases want with
        | true => exact pass _ R' h (by rw [hw]; rfl)
        | false => exact doit _ R' h (by rw [hw]; rfl)
    · rename_i hb
      have hy := yielded_skip hj hdj (R.envT hb)
      exact pass s R h (by simp [Region.wanted, hg, hy])
    · cases h

def Ls (listed : Array Bool) (i : Nat) : Prop := listed.getD i false = true
noncomputable def unl (ops : Array Oper) (listed : Array Bool) : List Nat := (List.range ops.size).filter fun i => !listed.getD i false
theorem Ls_set {listed : Array Bool} {i : Nat} (hi : i < listed.size) : Ls (listed.setIfInBounds i true) = fun j => Ls listed j ∨ j = i := by
  funext j
  apply propext
  unfold Ls
  by_cases e : i = j
  · subst e
    simp [hi]
  · rw [getD_set_ne false e]
    constructor
    · exact .inl
    · rintro (h | h)
      · exact h
      · exact absurd h.symm e
theorem unl_lt {listed : Array Bool} {i : Nat} (hs : listed.size = ops.size) (hi : i < ops.size) (hn : ¬ Ls listed i) : (unl ops (listed.setIfInBounds i true)).length < (unl ops listed).length := by
  have key : ∀ (l : List Nat), l.Nodup → i ∈ l → (l.filter fun j => !(listed.setIfInBounds i true).getD j false).length < (l.filter fun j => !listed.getD j false).length := fun l => by
    induction l with
    | nil => intro _ h; cases h
    | cons x l ih =>
      intro hnd hm
      have hnd := List.nodup_cons.1 hnd
      by_cases e : i = x
      · subst e
        have h1 : (!(listed.setIfInBounds i true).getD i false) = false := by simp [hs, hi]
        have h2 : (!listed.getD i false) = true := by
          cases hb : listed.getD i false with
          | true => exact absurd hb hn
          | false => rfl
        rw [List.filter_cons, List.filter_cons, h1, h2]
        simp only [Bool.false_eq_true, if_false, if_true, List.length_cons]
        have : (l.filter fun j => !(listed.setIfInBounds i true).getD j false) = l.filter fun j => !listed.getD j false := List.filter_congr fun j hj => by
          rw [getD_set_ne false (fun e : i = j => hnd.1 (by rw [e]; exact hj))]
        rw [this]
        omega
      · have hm' : i ∈ l := by
          cases hm with
          | head => exact absurd rfl e
          | tail _ h => exact h
        have := ih hnd.2 hm'
        rw [List.filter_cons, List.filter_cons, getD_set_ne false e]
        split
        · simp only [List.length_cons]; omega
        · exact this
  exact key _ List.nodup_range (List.mem_range.2 hi)
theorem binds_any {md : Region.Mode} {e : Edge} (h : grAny e.ground = true) : Region.binds md e = true := by
  unfold Region.binds
  cases hg : e.ground <;> rw [hg] at h <;> first | rfl | cases h
theorem ready_of {md : Region.Mode} {listed : Array Bool} (hs : listed.size = ops.size) {i : Nat} (h : i ∈ Region.ready md ops listed) : ∃ o, ops[i]? = some o ∧ ¬ Ls listed i ∧ ∀ e ∈ o.after.toList, grAny e.ground = true → Ls listed e.on := by
  obtain ⟨h1, o, ho, h2⟩ := mem_ready.1 h
  have hi : i < ops.size := (Array.getElem?_eq_some_iff.1 ho).1
  refine ⟨o, ho, fun h => ?_, fun e he hg => h2 e (by simpa using he) (binds_any hg)⟩
  unfold Ls at h
  rw [Array.getD_eq_getD_getElem?, Array.getElem?_eq_getElem (by omega)] at h h1
  simp at h h1
  rw [h] at h1
  cases h1
theorem ready_mk {md : Region.Mode} {listed : Array Bool} (hs : listed.size = ops.size) {i : Nat} {o : Oper} (ho : ops[i]? = some o) (h1 : ¬ Ls listed i) (h2 : ∀ e ∈ o.after.toList, Region.binds md e = true → Ls listed e.on) : i ∈ Region.ready md ops listed := by
  have hi : i < ops.size := (Array.getElem?_eq_some_iff.1 ho).1
  refine mem_ready.2 ⟨?_, o, ho, fun e he hb => h2 e (by simpa using he) hb⟩
  unfold Ls at h1
  rw [Array.getD_eq_getD_getElem?, Array.getElem?_eq_getElem (by omega)] at h1 ⊢
  simpa using h1
theorem pick1_spec {L : Nat} : ∀ {gs : List Nat} {i0 i : Nat}, pick1 L i0 gs = some i → i0 ≤ i ∧ inM L i = false ∧ ∃ g, gs[i - i0]? = some g ∧ Nat.beq (Nat.land g L) g = true
  | [], _, _, h => by cases h
  | g :: gs, i0, i, h => by
    simp only [pick1] at h
    cases hb : (!inM L i0 && Nat.beq (Nat.land g L) g) with
    | true =>
      rw [hb] at h
      simp only [cond_true, Option.some.injEq] at h
      subst h
      simp only [Bool.and_eq_true, Bool.not_eq_true'] at hb
      exact ⟨Nat.le_refl _, hb.1, g, by simp, hb.2⟩
    | false =>
      rw [hb] at h
      simp only [cond_false] at h
      obtain ⟨h1, h2, g', h3, h4⟩ := pick1_spec h
      exact ⟨by omega, h2, g', by rw [show i - i0 = (i - (i0 + 1)) + 1 by omega]; simpa using h3, h4⟩
/-- Where nothing is ready, all is done. -/
theorem all_done (C : Calm ops ms m) {md : Region.Mode} {listed : Array Bool} (hs : listed.size = ops.size) (hr : Region.ready md ops listed = []) : ∀ i, i < ops.size → Ls listed i := by
  have byOrder : (∀ (i : Nat) o, ops[i]? = some o → ∀ e ∈ o.after.toList, Region.binds md e = true → e.on < i) → ∀ i, i < ops.size → Ls listed i := fun hlt => by
    have key : ∀ n i, i < n → i < ops.size → Ls listed i := fun n => by
      induction n with
      | zero => intro i hi; omega
      | succ n ihn =>
        intro i hi his
        by_cases hL : Ls listed i
        · exact hL
        · exfalso
          have ho := Array.getElem?_eq_getElem his
          have : i ∈ Region.ready md ops listed := ready_mk hs ho hL fun e he hb => by
            have := hlt i _ ho e he hb
            exact ihn e.on (by omega) (by omega)
          rw [hr] at this
          cases this
    exact fun i hi => key (i + 1) i (by omega) hi
  have txt : ∀ e : Edge, grTxt e.ground = false → ∃ row, e.ground = .gcOnly row := fun e h => by
    cases hg : e.ground <;> rw [hg] at h <;> first | exact ⟨_, rfl⟩ | cases h
  rcases C.gc with hp | hgc
  · exact byOrder fun i o ho e he _ => C.edges i o ho e he (by
      have := hp i o ho e he
      cases hg : e.ground <;> rw [hg] at this <;> first | rfl | cases this)
  · cases md with
    | any => exact byOrder fun i o ho e he hb => C.edges i o ho e he (by
        cases h : grTxt e.ground with
        | true => rfl
        | false =>
          obtain ⟨row, hg⟩ := txt e h
          rw [Region.binds, hg] at hb
          cases hb)
    | text => exact byOrder fun i o ho e he hb => C.edges i o ho e he (by
        cases h : grTxt e.ground with
        | true => rfl
        | false =>
          obtain ⟨row, hg⟩ := txt e h
          rw [Region.binds, hg] at hb
          cases hb)
    | gc =>
      have key : ∀ (f L : Nat), (∀ j, inM L j = true → Ls listed j) → ∀ j, inM (greedy (gcMs ops.toList) f L) j = true → Ls listed j := fun f => by
        induction f with
        | zero => intro L hL j hj; exact hL j hj
        | succ f ih =>
          intro L hL j hj
          simp only [greedy] at hj
          split at hj
          · rename_i i hp
            obtain ⟨_, h2, g, h3, h4⟩ := pick1_spec hp
            rw [Nat.sub_zero] at h3
            unfold gcMs at h3
            rw [List.getElem?_map] at h3
            cases ho' : ops.toList[i]? with
            | none => rw [ho'] at h3; cases h3
            | some o =>
              rw [ho'] at h3
              simp at h3
              subst h3
              have ho : ops[i]? = some o := by simpa using ho'
              have hi : Ls listed i := by
                by_cases hLi : Ls listed i
                · exact hLi
                · exfalso
                  have : i ∈ Region.ready .gc ops listed := ready_mk hs ho hLi fun e he hb => hL e.on (sub_spec h4 (edM_spec he (by
                    cases hg : e.ground <;> first | rfl | (rw [Region.binds, hg] at hb; cases hb))))
                  rw [hr] at this
                  cases this
              refine ih _ (fun k hk => ?_) j hj
              rw [inM_lor, inM_one] at hk
              simp only [Bool.or_eq_true, decide_eq_true_eq] at hk
              rcases hk with hk | rfl
              · exact hL k hk
              · exact hi
          · exact hL j hj
      exact fun i hi => key ops.size 0 (fun j hj => by rw [inM_zero] at hj; cases hj) i (allM_spec hgc hi)

theorem calm_any (H : TIs fr.P G) (HC : ∀ f F, get G.calls f = some F → CallOk fr.P f F) (hn : G.n = fr.n) (C : Calm ops ms m) (Tr : Trace G ops ms m st rd wr) {Q : Exit → Act → World → Prop} {K : St → Option ρ} (hQ : ∀ σ s a w, K s = some r → RelS fr σ s a w → Q .normal a w) (hrest : aOps G ops (ops.toList.drop m) (st m) K = some r) (md : Region.Mode) :
    ∀ (fuel : Nat) (listed : Array Bool) (a : Act) (w : World), listed.size = ops.size → (unl ops listed).length ≤ fuel → Closed ops (Ls listed) →
      (((∀ i, Ls listed i → i < m) ∧ ∃ σ s, RelS fr σ s a w ∧ At G ops m st wr (Ls listed) s) ∨ ∃ k, m ≤ k ∧ (∀ i, Ls listed i ↔ i < k) ∧ ∃ σ s, RelS fr σ s a w ∧ aOps G ops (ops.toList.drop k) s K = some r) → wpAny fr.P md ops Q fuel listed a w := by
  have full : ∀ (listed : Array Bool) (a : Act) (w : World), ((∀ i, Ls listed i → i < m) ∧ ∃ σ s, RelS fr σ s a w ∧ At G ops m st wr (Ls listed) s) → (∀ i, i < m → Ls listed i) → ∃ k, m ≤ k ∧ (∀ i, Ls listed i ↔ i < k) ∧ ∃ σ s, RelS fr σ s a w ∧ aOps G ops (ops.toList.drop k) s K = some r := fun listed a w hA hall => by
    obtain ⟨h1, σ, s, R, A⟩ := hA
    refine ⟨m, Nat.le_refl m, fun i => ⟨h1 i, hall i⟩, σ, st m, R.congrE (fun id => ?_) fun t => ?_, hrest⟩
    · rcases last_of (fun j => id ∈ wr j) m with h | ⟨j, g1, g2, g3⟩
      · rw [tab_no C Tr (Nat.le_refl m) h, A.T id fun j _ hj => h j hj]
      · rw [tab_yes C Tr g1 (Nat.le_refl m) g3, A.Tw j id (hall j g1) g1 g2 fun k _ hk hjk => g3 k hjk hk]
    · by_cases h : ∃ j, j < m ∧ W G ops j t
      · obtain ⟨j, hj, hw⟩ := h
        exact (A.yes j t (hall j hj) hj hw).symm
      · rw [A.no t fun j _ hj hw => h ⟨j, hj, hw⟩]
        exact tr_no C Tr (Nat.le_refl m) fun j hj hw => h ⟨j, hj, hw⟩
  have done : ∀ (listed : Array Bool) (a : Act) (w : World), (((∀ i, Ls listed i → i < m) ∧ ∃ σ s, RelS fr σ s a w ∧ At G ops m st wr (Ls listed) s) ∨ ∃ k, m ≤ k ∧ (∀ i, Ls listed i ↔ i < k) ∧ ∃ σ s, RelS fr σ s a w ∧ aOps G ops (ops.toList.drop k) s K = some r) → (∀ i, i < ops.size → Ls listed i) → Q .normal a w := fun listed a w hI hall => by
    have hB : ∃ k, m ≤ k ∧ (∀ i, Ls listed i ↔ i < k) ∧ ∃ σ s, RelS fr σ s a w ∧ aOps G ops (ops.toList.drop k) s K = some r := by
      rcases hI with hA | hB
      · exact full listed a w hA fun i hi => hall i (Nat.lt_of_lt_of_le hi C.le)
      · exact hB
    obtain ⟨k, _, hk, σ, s, R, hr⟩ := hB
    have hsz : ops.size ≤ k := by
      rcases Nat.lt_or_ge k ops.size with h | h
      · exact absurd ((hk k).1 (hall k h)) (by omega)
      · exact h
    rw [List.drop_eq_nil_of_le (by simpa using hsz)] at hr
    exact hQ σ s a w hr R
  intro fuel
  induction fuel with
  | zero =>
    intro listed a w hs hu hc hI
    have hnil : unl ops listed = [] := List.eq_nil_of_length_eq_zero (by omega)
    have hall : ∀ i, i < ops.size → Ls listed i := fun i hi => by
      cases hb : listed.getD i false with
      | true => exact hb
      | false =>
        have : i ∈ unl ops listed := List.mem_filter.2 ⟨List.mem_range.2 hi, by rw [hb]; rfl⟩
        rw [hnil] at this
        cases this
    refine ⟨List.eq_nil_iff_forall_not_mem.2 fun i hi => ?_, done listed a w hI hall⟩
    obtain ⟨o, ho, hni, _⟩ := ready_of hs hi
    exact hni (hall i (Array.getElem?_eq_some_iff.1 ho).1)
  | succ fuel ih =>
    intro listed a w hs hu hc hI
    refine ⟨fun hr => done listed a w hI (all_done C hs hr), fun i hi => ?_⟩
    obtain ⟨o, ho, hni, hd⟩ := ready_of hs hi
    have his : i < ops.size := (Array.getElem?_eq_some_iff.1 ho).1
    have hset : Ls (listed.setIfInBounds i true) = fun j => Ls listed j ∨ j = i := Ls_set (by omega)
    have hlt := unl_lt (ops := ops) hs his hni
    have hc' : Closed ops (Ls (listed.setIfInBounds i true)) := by
      rw [hset]
      intro j oj hj hoj e he hg
      rcases hj with hj | rfl
      · exact .inl (hc j oj hj hoj e he hg)
      · rw [ho] at hoj
        cases hoj
        exact .inl (hd e he hg)
    have before : ∀ k, inM (ms.getD i 0) k = true → Ls listed k := fun k hk => clo_in C hc (i + 1) i o (by omega) ho hd k hk
    have caseB : (∃ k, m ≤ k ∧ (∀ i, Ls listed i ↔ i < k) ∧ ∃ σ s, RelS fr σ s a w ∧ aOps G ops (ops.toList.drop k) s K = some r) → wpOp fr.P ops Q i (wpAny fr.P md ops Q fuel (listed.setIfInBounds i true)) a w := fun hB => by
      obtain ⟨k, hmk, hk, σ, s, R, hr⟩ := hB
      have hik : i = k := by
        have h1 : ¬ i < k := fun h => hni ((hk i).2 h)
        rcases Nat.lt_or_ge k i with h | h
        · have := before k (C.rest i o (by omega) ho k h)
          exact absurd ((hk k).1 this) (by omega)
        · omega
      subst hik
      have hdrop : ops.toList.drop i = o :: ops.toList.drop (i + 1) := by
        have hil : i < ops.toList.length := by simpa using his
        rw [List.drop_eq_getElem_cons hil]
        congr 1
        have := (Array.getElem?_eq_some_iff.1 ho).2
        simpa using this
      rw [hdrop] at hr
      refine aOps_step H HC hn ho hr R fun σ' s' a' w' hr' R' => ?_
      refine ih _ a' w' (by simpa using hs) (by omega) hc' (.inr ⟨i + 1, by omega, fun j => ?_, σ', s', R', hr'⟩)
      rw [hset]
      simp only []
      rw [hk j]
      omega
    rcases hI with hA | hB
    · by_cases him : i < m
      · obtain ⟨h1, σ, s, R, A⟩ := hA
        refine calm_step H HC hn C Tr A hc him ho hni hd R fun σ' s' a' w' R' A' => ?_
        refine ih _ a' w' (by simpa using hs) (by omega) hc' (.inl ⟨fun j hj => ?_, σ', s', R', ?_⟩)
        · rw [hset] at hj
          rcases hj with hj | rfl
          · exact h1 j hj
          · exact him
        · rw [hset]
          exact A'
      · have hall : ∀ k, k < i → Ls listed k := fun k hk => before k (C.rest i o (by omega) ho k hk)
        exact caseB (full listed a w hA fun k hk => hall k (by omega))
    · exact caseB hB
theorem regM_ok (H : TIs fr.P G) (HC : ∀ f F, get G.calls f = some F → CallOk fr.P f F) (hn : G.n = fr.n) : CalmOk fr G regM := by
  intro ρ r id ops σ s a w K Q ms m hcalm h R hQ
  have C := calm_of hcalm
  have hlen : ops.toList.length = ops.size := Array.length_toList
  obtain ⟨st, rd, wr, e0, e1, _, e3, e4⟩ := trace_of ops.toList 0 s [] (fun k o hk => by simpa using hk) (Nat.zero_le m) (by have := C.le; omega) h
  rw [Nat.sub_zero] at e4
  have Tr : Trace G ops ms m st rd wr := ⟨fun i o hi ho => e1 i o (by omega) (by simpa using ho), fun j i hji hi => by
    have := e3 j i hji (by omega)
    rwa [Nat.zero_add, Nat.zero_add] at this⟩
  refine wp_region_draw fun t => ?_
  have hnone : ∀ i, ¬ Ls (Array.replicate ops.size false) i := fun i h => by
    unfold Ls at h
    rw [Array.getD_eq_getD_getElem?, Array.getElem?_replicate] at h
    split at h <;> simp at h
  have hany : ∀ md t', wpOps fr.P ops Q (Region.linearise md ops t') a { w with drawn := w.drawn + 1 } := fun md t' => by
    refine wpAny_sound ops.size t' _ a _ (calm_any H HC hn C Tr hQ e4 md ops.size _ a _ (by simp) ?_ (fun i o hi => absurd hi (hnone i)) (.inl ⟨fun i hi => absurd hi (hnone i), σ, s, R.grow (Below.self_drew _ w), ⟨fun id _ => by rw [e0], fun j _ hj => absurd hj (hnone j), fun j t hj => absurd hj (hnone j), fun t _ => by rw [e0]⟩⟩))
    have : (unl ops (Array.replicate ops.size false)).length ≤ (List.range ops.size).length := List.length_filter_le _ _
    simpa using this
  unfold Region.schedule
  split
  · exact hany _ _
  · exact hany _ _
end
theorem calm_ok {P : Program} {G : Ctx} (H : TIs P G) (HC : ∀ f F', get G.calls f = some F' → CallOk P f F') : ∀ fr : Fr, fr.P = P → fr.n = G.n → CalmOk fr G regM := by
  rintro fr rfl hn
  exact regM_ok H HC hn.symm
end Go.Proofs.YtkadllkeekoopaaGreat.Abs
end

section
namespace Go.Proofs.YtkadllkeekoopaaGreat.Abs
open Go.RowKit Go.ChangeShapes Go.WideShapes

/-! ## What came in: how it reads -/
/-- A value's bytes, at least. -/
noncomputable def tb : Ty → Nat
  | .int k => k.bits / 8
  | .bool => 1
  | .str => 16
  | .unit => 0
  | .sl _ => 24
  | .arr n t => n * tb t
  | .pair a b => tb a + tb b
/-- A bound of the lengths, if there is one. -/
def bnd : Option Nat → Nat → Prop
  | none, _ => True
  | some r, n => n ≤ r
theorem bnd_zero (rb : Option Nat) : bnd rb 0 := by cases rb <;> simp [bnd]
/-- What is known of a value that came in. -/
def goodR (rb : Option Nat) : (t : Ty) → t.den → Prop
  | .int k, x => (Lit.int k x).wf = true
  | .bool, _ => True
  | .str, x => x.length ≤ 140737488351232 ∧ bnd rb x.length
  | .unit, _ => True
  | .sl t, xs => xs.length * tb t ≤ 140737488351232 ∧ (xs.length ≤ 9223372036854775807 ∧ bnd rb xs.length) ∧ ∀ x ∈ xs, goodR rb t x
  | .arr n t, xs => xs.length = n ∧ ∀ x ∈ xs, goodR rb t x
  | .pair a b, x => goodR rb a x.1 ∧ goodR rb b x.2
abbrev good : (t : Ty) → t.den → Prop := goodR none
mutual
/-- The lengths of all that is read. -/
def lens {H : Type} : DataW H → List Nat
  | .lit (.string bytes) => [bytes.length]
  | .slice elems _ => elems.length :: lensAll elems
  | .agg parts => lensAll parts
  | _ => []
def lensAll {H : Type} : List (DataW H) → List Nat
  | [] => []
  | d :: r => lens d ++ lensAll r
end
theorem lensAll_mem {H : Type} : ∀ {ds : List (DataW H)} {d : DataW H}, d ∈ ds → ∀ n ∈ lens d, n ∈ lensAll ds
  | d0 :: ds, d, hd, n, hn => by
    rw [lensAll, List.mem_append]
    rcases List.mem_cons.1 hd with rfl | hd
    · exact .inl hn
    · exact .inr (lensAll_mem hd n hn)
/-- What is known of the data that is read. -/
def Zd {H : Type} (P : Program) (rb : Option Nat) (ty : TypeId) (d : DataW H) : Prop := (∀ n ∈ d.weights P ty, n ≤ reachBytes) ∧ ∀ n ∈ lens d, bnd rb n

/-- Does type ty read as a t? -/
noncomputable def opensB (P : Program) : Nat → Sum TypeId (List Field × Nat) → Ty → Bool
  | 0, _, _ => false
  | m + 1, .inl ty, t => match t with
    | .int k => (match P.underlying ty with | some (.int k') => decide (k = k') | _ => false)
    | .bool => (match P.underlying ty with | some .bool => true | _ => false)
    | .str => (match P.underlying ty with | some .string => true | _ => false)
    | .sl t => (match P.underlying ty with | some (.slice e) => Nat.beq (P.cellsOf e) t.size && Nat.blt 0 t.size && Nat.ble (tb t) (P.bytesOf e) && opensB P m (.inl e) t | _ => false)
    | .pair a b => (match P.underlying ty with | some (.struct fs) => Nat.beq (P.cellsOf ty) (a.size + b.size) && opensB P m (.inr (fs.toList, 0)) (.pair a b) | _ => false)
    | _ => false
  | m + 1, .inr (f :: g :: r, o), .pair a b => Nat.beq f.offset o && Nat.beq (P.cellsOf f.type) a.size && opensB P m (.inl f.type) a && opensB P m (.inr (g :: r, o + a.size)) b
  | m + 1, .inr ([f], o), t => Nat.beq f.offset o && Nat.beq (P.cellsOf f.type) t.size && opensB P m (.inl f.type) t
  | _ + 1, .inr _, _ => false

theorem weightsAll_mem {H : Type} {P : Program} {e : TypeId} : ∀ {ds : List (DataW H)} {d : DataW H}, d ∈ ds → ∀ n ∈ d.weights P e, n ∈ DataW.weightsAll P e ds
  | d0 :: ds, d, hd, n, hn => by
    rw [DataW.weightsAll, List.mem_append]
    rcases List.mem_cons.1 hd with rfl | hd
    · exact .inl hn
    · exact .inr (weightsAll_mem hd n hn)

section
variable {H : Type} {enc : TypeId × Value → H} {P : Program} {w : World} {base : Nat} {spare : Nat → Bool} {held : Bool} {rb : Option Nat}
/-- Blocks that there are. -/
def Old (w : World) (b : Nat) : Prop := b < w.heap.size

theorem open_slice' {ty e : TypeId} {t : Ty} {fuel : Nat} {cs : List Value} {y : DataW H × List MemPlace} (hu : P.underlying ty = some (.slice e)) (hs : P.cellsOf e = t.size) (h0 : 0 < t.size) (hB : tb t ≤ P.bytesOf e)
    (ih : ∀ {fuel cs} {y : DataW H × List MemPlace}, DataW.trod enc P w base spare held fuel e cs = some y → Zd P rb e y.1 → ∃ x, KF w (Old w) t x cs ∧ goodR rb t x)
    (hy : DataW.trod enc P w base spare held fuel ty cs = some y) (hz : Zd P rb ty y.1) : ∃ x, KF w (Old w) (.sl t) x cs ∧ goodR rb (.sl t) x := by
  rcases Deep.open_slice hu hy with ⟨rfl, rfl⟩ | ⟨a, len, cap, m, n, D, Pl, rfl, hb, hl, hm, hmm, rfl, hx⟩
  · exact ⟨[], ⟨none, 0, rfl, Nat.le_refl _, .inl rfl⟩, by simp [goodR, bnd_zero]⟩
  have hlm : len ≤ m := by rw [hmm]; split <;> omega
  obtain ⟨hz, hz2⟩ := hz
  simp only [DataW.weights, hu, List.mem_cons, List.mem_append] at hz
  simp only [lens, List.mem_cons] at hz2
  have hel : ∀ i, i < len → ∃ x : t.den, (∃ c, c.length = t.size ∧ KF w (Old w) t x c ∧ ∀ j u, c[j]? = some u → w.cell? (a.add (i * t.size + j)) = some u) ∧ goodR rb t x := by
    intro i hi
    obtain ⟨cs', h1, h2⟩ := hx i (by omega)
    obtain ⟨x, hk, hg⟩ := ih h2 ⟨fun q hq => hz q (.inr (.inl (weightsAll_mem (d := D i) (List.mem_map.2 ⟨i, List.mem_range.2 hi, rfl⟩) q hq))), fun q hq => hz2 q (.inr (lensAll_mem (d := D i) (List.mem_map.2 ⟨i, List.mem_range.2 hi, rfl⟩) q hq))⟩
    obtain ⟨_, hlen, hc⟩ := World.cells?_some h1
    refine ⟨x, ⟨cs', by rw [hlen, hs], hk, fun j u hu => ?_⟩, hg⟩
    have hj : j < cs'.length := (List.getElem?_eq_some_iff.1 hu).1
    rw [hlen] at hj
    have := hc j hj
    rw [hu, hs] at this
    rw [← Deep.add_add]
    exact this
  have : Inhabited t.den := ⟨t.zero⟩
  obtain ⟨X, hX⟩ := Deep.choose_lt (α := t.den) (p := fun i x => (∃ c, c.length = t.size ∧ KF w (Old w) t x c ∧ ∀ j u, c[j]? = some u → w.cell? (a.add (i * t.size + j)) = some u) ∧ goodR rb t x) hel
  have hget : ∀ j p, ((List.range len).map X)[j]? = some p → j < len ∧ X j = p := by
    intro j p hp
    have hj : j < len := by
      have := (List.getElem?_eq_some_iff.1 hp).1
      simpa using this
    refine ⟨hj, ?_⟩
    simpa [List.getElem?_range, hj] using hp
  refine ⟨(List.range len).map X, ⟨some a, cap, by simp, by simpa using hl, ?_⟩, ?_, ?_, ?_⟩
  · by_cases h : len = 0
    · subst h
      exact .inl rfl
    · right
      obtain ⟨⟨c0, hc0, _, hcell0⟩, _⟩ := hX 0 (Nat.pos_of_ne_zero h)
      obtain ⟨u0, hu0⟩ : ∃ u0, c0[0]? = some u0 := ⟨c0[0]'(by omega), by simp⟩
      have hc := hcell0 0 u0 hu0
      have hspot : a.spot = none := by simpa [Addr.add] using World.cell?_spot hc
      have hblk : a.block < w.heap.size := by
        unfold World.cell? at hc
        split at hc
        · rename_i hh
          have := (Array.getElem?_eq_some_iff.1 hh).1
          simpa [Addr.add] using this
        · cases hc
      refine ⟨a, rfl, hspot, hblk, fun j p hp => ?_⟩
      obtain ⟨hj, rfl⟩ := hget j p hp
      obtain ⟨⟨c, h1, h2, h3⟩, _⟩ := hX j hj
      refine ⟨c, h1, h2, fun q u hq => ?_⟩
      rw [← h3 q u hq]
      obtain ⟨ab, ao, asp⟩ := a
      simp only at hspot
      subst hspot
      rw [Addr.add_lit]
  · have := hz _ (.inl rfl)
    simp only [List.length_map, List.length_range] at this ⊢
    exact Nat.le_trans (Nat.mul_le_mul (Nat.le_add_right _ _) hB) this
  · have : maxLen = 9223372036854775807 := rfl
    have hb := hz2 _ (.inl rfl)
    simp only [List.length_map, List.length_range] at hb ⊢
    exact ⟨by omega, hb⟩
  · intro x hx'
    obtain ⟨i, hi, rfl⟩ := List.mem_map.1 hx'
    exact (hX i (List.mem_range.1 hi)).2

/-- The fields from offset o on. -/
def FieldsAt (rb : Option Nat) (enc : TypeId × Value → H) (P : Program) (w : World) (base : Nat) (spare : Nat → Bool) (held : Bool) (fs : List Field) (cs : List Value) (n : Nat) (xs : List (DataW H × List MemPlace)) : Prop :=
  xs.length = fs.length ∧ (∀ (i : Nat) (f : Field), fs[i]? = some f → DataW.trod enc P w base spare held n f.type ((cs.drop f.offset).take (P.cellsOf f.type)) = xs[i]?) ∧
    (∀ q ∈ DataW.weightsEach P (fs.map (·.type)) (xs.map (·.1)), q ≤ reachBytes) ∧ ∀ q ∈ lensAll (xs.map (·.1)), bnd rb q

theorem opens_of : ∀ (m : Nat) (z : Sum TypeId (List Field × Nat)) (t : Ty), opensB P m z t = true →
    match z with
    | .inl ty => ∀ (fuel : Nat) (cs : List Value) (y : DataW H × List MemPlace), DataW.trod enc P w base spare held fuel ty cs = some y → Zd P rb ty y.1 → ∃ x, KF w (Old w) t x cs ∧ goodR rb t x
    | .inr (fs, o) => ∀ (cs : List Value) (n : Nat) (xs : List (DataW H × List MemPlace)), cs.length = o + t.size → FieldsAt rb enc P w base spare held fs cs n xs → ∃ x, KF w (Old w) t x (cs.drop o) ∧ goodR rb t x
  | 0, _, _, h => by cases h
  | m + 1, .inl ty, t, h => by
    intro fuel cs y hy hz
    cases t with
    | int k =>
      simp only [opensB] at h
      split at h
      · rename_i k' hu
        have hk := of_decide_eq_true h
        subst hk
        obtain ⟨n, rfl, rfl, hw⟩ := DataW.trod_int hu hy
        exact ⟨n, rfl, hw⟩
      · cases h
    | bool =>
      simp only [opensB] at h
      split at h
      · rename_i hu
        obtain ⟨n, rfl, rfl⟩ := DataW.trod_bool hu hy
        exact ⟨n, rfl, trivial⟩
      · cases h
    | str =>
      simp only [opensB] at h
      split at h
      · rename_i hu
        obtain ⟨s, rfl, rfl, hw⟩ := DataW.trod_string hu hy
        have := hz.1 s.data.toList.length (by simp [DataW.weights])
        exact ⟨s.data.toList, ⟨s, rfl, rfl⟩, this, hz.2 s.data.toList.length (by simp [lens])⟩
      · cases h
    | unit => simp [opensB] at h
    | arr n t => simp [opensB] at h
    | sl t =>
      simp only [opensB] at h
      split at h
      · rename_i e hu
        simp only [Bool.and_eq_true] at h
        obtain ⟨⟨⟨h1, h2⟩, h3⟩, h4⟩ := h
        exact open_slice' hu (Nat.eq_of_beq_eq_true h1) (Nat.lt_of_succ_le (Nat.le_of_ble_eq_true h2)) (Nat.le_of_ble_eq_true h3) (fun {_ _ _} h hz => opens_of m (.inl e) t h4 _ _ _ h hz) hy hz
      · cases h
    | pair a b =>
      simp only [opensB] at h
      split at h
      · rename_i fs hu
        simp only [Bool.and_eq_true] at h
        obtain ⟨xs, n, _, rfl, hl, hxs, hall⟩ := DataW.trod_struct hu hy
        obtain ⟨hz, hz2⟩ := hz
        simp only [DataW.weights, hu] at hz
        simp only [lens] at hz2
        have := opens_of m (.inr (fs.toList, 0)) (.pair a b) h.2 cs n xs (by rw [hl, Nat.eq_of_beq_eq_true h.1]; simp [Ty.size]) ⟨by simpa using hxs, fun i f hf => hall i f (by simpa using hf), hz, hz2⟩
        simpa using this
      · cases h
  | m + 1, .inr (f :: g :: r, o), .pair a b, h => by
    intro cs n xs hcs ⟨hl, hall, hz, hz2⟩
    simp only [opensB, Bool.and_eq_true] at h
    obtain ⟨⟨⟨h1, h2⟩, h3⟩, h4⟩ := h
    have h1 := Nat.eq_of_beq_eq_true h1
    have h2 := Nat.eq_of_beq_eq_true h2
    match xs, hl with
    | x0 :: xs, hl =>
      have q0 := hall 0 f rfl
      simp only [List.map_cons, DataW.weightsEach, List.mem_append] at hz
      simp only [List.map_cons, lensAll, List.mem_append] at hz2
      obtain ⟨x, hk, hg⟩ := opens_of m (.inl f.type) a h3 _ _ x0 q0 ⟨fun q hq => hz q (.inl hq), fun q hq => hz2 q (.inl hq)⟩
      obtain ⟨z, hk1, hg1⟩ := opens_of m (.inr (g :: r, o + a.size)) b h4 cs n xs (by simp only [Ty.size] at hcs; omega) ⟨by simpa using hl, fun i f hf => hall (i + 1) f hf, fun q hq => hz q (.inr (by simpa using hq)), fun q hq => hz2 q (.inr (by simpa using hq))⟩
      rw [h1, h2] at hk
      refine ⟨(x, z), ⟨_, _, ?_, hk, hk1⟩, hg, hg1⟩
      rw [← List.drop_drop, List.take_append_drop]
  | m + 1, .inr ([f], o), t, h => by
    intro cs n xs hcs ⟨hl, hall, hz, hz2⟩
    have h : (Nat.beq f.offset o && Nat.beq (P.cellsOf f.type) t.size && opensB P m (.inl f.type) t) = true := by
      cases t <;> exact h
    simp only [Bool.and_eq_true] at h
    obtain ⟨⟨h1, h2⟩, h3⟩ := h
    have h1 := Nat.eq_of_beq_eq_true h1
    have h2 := Nat.eq_of_beq_eq_true h2
    match xs, hl with
    | [x0], _ =>
      have q0 := hall 0 f rfl
      simp only [List.map_cons, DataW.weightsEach, List.mem_append] at hz
      simp only [List.map_cons, lensAll, List.mem_append] at hz2
      obtain ⟨x, hk, hg⟩ := opens_of m (.inl f.type) t h3 _ _ x0 q0 ⟨fun q hq => hz q (.inl hq), fun q hq => hz2 q (.inl hq)⟩
      rw [h1, h2, List.take_of_length_le (by rw [List.length_drop]; omega)] at hk
      exact ⟨x, hk, hg⟩
  | m + 1, .inr ([], _), t, h => by cases t <;> cases h
  | m + 1, .inr (_ :: _ :: _, _), .int k, h => by simp [opensB] at h
  | m + 1, .inr (_ :: _ :: _, _), .bool, h => by simp [opensB] at h
  | m + 1, .inr (_ :: _ :: _, _), .str, h => by simp [opensB] at h
  | m + 1, .inr (_ :: _ :: _, _), .unit, h => by simp [opensB] at h
  | m + 1, .inr (_ :: _ :: _, _), .sl _, h => by simp [opensB] at h
  | m + 1, .inr (_ :: _ :: _, _), .arr _ _, h => by simp [opensB] at h
end
end Go.Proofs.YtkadllkeekoopaaGreat.Abs
end

section
namespace Go.Proofs.YtkadllkeekoopaaGreat.Abs
open Go.RowKit Go.ChangeShapes Go.WideShapes

/-! ## An argument -/
noncomputable def argB (P : Program) (ty : TypeId) : VSh → Bool
  | .c (.int k) => opensB P 60 (.inl ty) (.int k)
  | .c .bool => opensB P 60 (.inl ty) .bool
  | .c .str => opensB P 60 (.inl ty) .str
  | .c (.sl true t) => opensB P 60 (.inl ty) (.sl t)
  | .tv true (.pair a b) => opensB P 60 (.inl ty) (.pair a b)
  | .tv false (.pair a b) => !(Ty.pair a b).hasSl && opensB P 60 (.inl ty) (.pair a b)
  | .av n t => !t.hasSl && (match P.underlying ty with | some (.array m e) => Nat.beq m n && Nat.beq (P.cellsOf e) t.size && Nat.beq (P.cellsOf ty) (n * t.size) && opensB P 60 (.inl e) t | _ => false)
  | _ => false
def argGoodR {R : Type} (rb : Option Nat) : (x : VSh) → VSh.cons R x → Prop
  | .c (.int k), z => (Lit.int k z.1).wf = true
  | .c .bool, _ => True
  | .c .str, z => z.1.length ≤ 140737488351232 ∧ bnd rb z.1.length
  | .c (.sl _ t), z => goodR rb (.sl t) z.1
  | .tv _ t, z => goodR rb t z.1
  | .av n t, z => z.1.length = n ∧ ∀ x ∈ z.1, goodR rb t x
  | _, _ => True
abbrev argGood {R : Type} (x : VSh) (z : VSh.cons R x) : Prop := argGoodR none x z
noncomputable def argsB (P : Program) : Nat → List (Nat × VSh) → List TypeId → Bool
  | _, [], [] => true
  | i, (j, x) :: r, t :: ts => Nat.beq j i && Nat.blt i 1000000 && argB P t x && argsB P (i + 1) r ts
  | _, _, _ => false
def argsGoodR {R : Type} (rb : Option Nat) : (xs : List (Nat × VSh)) → slotsX R xs → Prop
  | [], _ => True
  | (_, x) :: r, z => argGoodR rb x z ∧ argsGoodR rb r (unpackV x z).2
abbrev argsGood {R : Type} (xs : List (Nat × VSh)) (z : slotsX R xs) : Prop := argsGoodR none xs z

theorem weightsAll_at {H : Type} {P : Program} {e : TypeId} {d : DataW H} {ds : List (DataW H)} (h : ∀ n ∈ DataW.weightsAll P e ds, n ≤ reachBytes) (hd : d ∈ ds) : ∀ n ∈ d.weights P e, n ≤ reachBytes := fun n hn => h n (weightsAll_mem hd n hn)

section
variable {H : Type} {enc : TypeId × Value → H} {P : Program} {w : World} {spare : Nat → Bool} {held : Bool} {rb : Option Nat}

theorem open_array {ty e : TypeId} {n : Nat} {t : Ty} {fuel : Nat} {cs : List Value} {y : DataW H × List MemPlace} (hu : P.underlying ty = some (.array n e)) (hs : P.cellsOf e = t.size) (ha : P.cellsOf ty = n * t.size)
    (ih : ∀ (fuel : Nat) (cs : List Value) (y : DataW H × List MemPlace), DataW.trod enc P w 0 spare held fuel e cs = some y → Zd P rb e y.1 → ∃ x, KF w (Old w) t x cs ∧ goodR rb t x)
    (hy : DataW.trod enc P w 0 spare held fuel ty cs = some y) (hz : Zd P rb ty y.1) : ∃ xs : List t.den, KF w (Old w) (.arr n t) xs cs ∧ xs.length = n ∧ ∀ x ∈ xs, goodR rb t x := by
  obtain ⟨xs, m, _, rfl, hl, hxs, hall⟩ := DataW.trod_array hu hy
  obtain ⟨hz, hz2⟩ := hz
  simp only [DataW.weights, hu] at hz
  simp only [lens] at hz2
  have hel : ∀ i, i < n → ∃ x : t.den, KF w (Old w) t x ((cs.drop (i * t.size)).take t.size) ∧ goodR rb t x := by
    intro i hi
    have h1 := hall i hi
    have hlt : i < xs.length := by omega
    rw [List.getElem?_eq_getElem hlt, hs] at h1
    exact ih _ _ _ h1 ⟨weightsAll_at hz (List.mem_map.2 ⟨_, List.getElem_mem hlt, rfl⟩), fun q hq => hz2 q (lensAll_mem (List.mem_map.2 ⟨_, List.getElem_mem hlt, rfl⟩) q hq)⟩
  have : Inhabited t.den := ⟨t.zero⟩
  obtain ⟨X, hX⟩ := Deep.choose_lt (α := t.den) (p := fun i x => KF w (Old w) t x ((cs.drop (i * t.size)).take t.size) ∧ goodR rb t x) hel
  refine ⟨(List.range n).map X, ⟨by simp, by rw [hl, ha], fun i x hi => ?_⟩, by simp, fun x hx => ?_⟩
  · have hlt : i < n := by
      have := (List.getElem?_eq_some_iff.1 hi).1
      simpa using this
    have e : X i = x := by simpa [List.getElem?_range, hlt] using hi
    rw [← e]
    exact (hX i hlt).1
  · obtain ⟨i, hi, rfl⟩ := List.mem_map.1 hx
    exact (hX i (List.mem_range.1 hi)).2

variable {fr : Fr} {σ : Nat → Value}
theorem arg_in (hF : ∀ b, Old w b → Foot fr σ [] w true b) {base : Nat} {ty : TypeId} {x : VSh} {R : Type} (r0 : R) {v : Value} {d : DataW H} {ps : List MemPlace} (hb : argB P ty x = true) (hv : Value.okWide P w .any base ty v) (h : DataW.Trod enc P w 0 spare held ty v d ps) (hz : Zd P rb ty d) :
    ∃ z : VSh.cons R x, argGoodR rb x z ∧ (unpackV x z).2 = r0 ∧ VR fr σ [] w (unpackV x z).1 v := by
  obtain ⟨fuel, hy⟩ := h
  have key : ∀ {t : Ty}, opensB P 60 (.inl ty) t = true → ∃ x, KF w (Foot fr σ [] w true) t x v.cells.toList ∧ goodR rb t x := fun {t} ho => by
    obtain ⟨x, hk, hg⟩ := opens_of (enc := enc) (w := w) (base := 0) (spare := spare) (held := held) 60 (.inl ty) t ho _ _ _ hy hz
    exact ⟨x, KF.imp (fun b hb => ⟨hF b hb, rfl⟩) _ _ _ hk, hg⟩
  have strct : ∀ {a b : Ty}, opensB P 60 (.inl ty) (.pair a b) = true → ∃ cs, v = .agg cs := fun {a b} ho => by
    simp only [opensB] at ho
    split at ho
    · rename_i fs hu
      obtain ⟨cs, e, _⟩ := okWide_struct hu hv
      exact ⟨cs, e⟩
    · cases ho
  cases x with
  | c s =>
    cases s with
    | int k =>
      obtain ⟨x, hk, hg⟩ := key (t := .int k) hb
      simp only [argB, opensB] at hb
      split at hb
      · rename_i k' hu
        obtain ⟨n, rfl⟩ := okWide_int hu hv
        have : k = k' := of_decide_eq_true hb
        subst this
        have e : [Value.int k n] = [.int k x] := hk
        simp only [List.cons.injEq, Value.int.injEq, true_and, and_true] at e
        subst e
        exact ⟨(n, r0), hg, rfl, rfl⟩
      · cases hb
    | bool =>
      obtain ⟨x, hk, hg⟩ := key (t := .bool) hb
      simp only [argB, opensB] at hb
      split at hb
      · rename_i hu
        obtain ⟨n, rfl⟩ := okWide_bool hu hv
        have e : [Value.bool n] = [.bool x] := hk
        simp only [List.cons.injEq, Value.bool.injEq, and_true] at e
        subst e
        exact ⟨(n, r0), trivial, rfl, rfl⟩
      · cases hb
    | str =>
      obtain ⟨x, hk, hg⟩ := key (t := .str) hb
      simp only [argB, opensB] at hb
      split at hb
      · rename_i hu
        obtain ⟨s, rfl⟩ := okWide_string hu hv
        obtain ⟨s', e, he⟩ := hk
        have e : [Value.string s] = [.string s'] := e
        simp only [List.cons.injEq, Value.string.injEq, and_true] at e
        subst e
        subst he
        exact ⟨(_, r0), hg, rfl, s, rfl, rfl⟩
      · cases hb
    | sl al t =>
      cases al with
      | false => cases hb
      | true =>
        obtain ⟨x, hk, hg⟩ := key (t := .sl t) hb
        have hb : opensB P 60 (.inl ty) (.sl t) = true := hb
        unfold opensB at hb
        simp only [] at hb
        split at hb
        · rename_i e hu
          obtain ⟨a, l, c, rfl⟩ := okWide_slice hu hv
          exact ⟨(x, r0), hg, rfl, hk⟩
        · cases hb
    | nil => cases hb
    | own id => cases hb
    | view id => cases hb
  | agg xs => cases hb
  | av n t =>
    simp only [argB, Bool.and_eq_true, Bool.not_eq_true'] at hb
    obtain ⟨hs, hb⟩ := hb
    split at hb
    · rename_i m e hu
      simp only [Bool.and_eq_true] at hb
      obtain ⟨⟨⟨h1, h2⟩, h3⟩, h4⟩ := hb
      have h1 := Nat.eq_of_beq_eq_true h1
      subst h1
      obtain ⟨xs, hk, hl, hg⟩ := open_array hu (Nat.eq_of_beq_eq_true h2) (Nat.eq_of_beq_eq_true h3) (opens_of 60 (.inl e) t h4) hy hz
      have hv' := hv
      simp only [Value.okWide, hu] at hv'
      obtain ⟨cs, rfl, _⟩ := hv'
      exact ⟨(xs, r0), ⟨hl, hg⟩, rfl, cs, rfl, KF.noSl (.arr m t) xs _ (by simpa [Ty.hasSl] using hs) hk⟩
    · cases hb
  | pt id off => cases hb
  | tv al t =>
    cases t with
    | pair a b =>
      cases al with
      | true =>
        have hb : opensB P 60 (.inl ty) (.pair a b) = true := hb
        obtain ⟨x, hk, hg⟩ := key hb
        obtain ⟨cs, rfl⟩ := strct hb
        exact ⟨(x, r0), hg, rfl, cs, rfl, CRs.flat _ _ _ hk⟩
      | false =>
        simp only [argB, Bool.and_eq_true, Bool.not_eq_true'] at hb
        obtain ⟨x, hk, hg⟩ := key hb.2
        obtain ⟨cs, rfl⟩ := strct hb.2
        exact ⟨(x, r0), hg, rfl, cs, rfl, CRs.flat _ _ _ (KF.noSl _ _ _ hb.1 hk)⟩
    | _ => cases al <;> cases hb

theorem args_in (hF : ∀ b, Old w b → Foot fr σ [] w true b) {base : Nat} {R : Type} (r0 : R) : ∀ {slots : List (Nat × VSh)} {i : Nat} {tys : List TypeId} {vs : List Value} {ds : List (DataW H)} {ps : List MemPlace}, argsB P i slots tys = true →
    DataW.TrodAll enc P w 0 spare held tys vs ds ps → (∀ n ∈ DataW.weightsEach P tys ds, n ≤ reachBytes) → (∀ n ∈ lensAll ds, bnd rb n) → (∀ (j : Nat) t v, tys[j]? = some t → vs[j]? = some v → Value.okWide P w .any base t v) →
    ∃ z : slotsX R slots, argsGoodR rb slots z ∧ (unpackSlots slots z).2 = r0 ∧ cntB slots = vs.length ∧ ∀ k v, get (unpackSlots slots z).1 k = some v → i ≤ k ∧ k < 1000000 ∧ ∃ u, vs[k - i]? = some u ∧ VR fr σ [] w v u
  | [], _, [], vs, ds, ps, _, h, _, _, _ => by
    obtain ⟨rfl, rfl, rfl⟩ := trodAll_nil h
    exact ⟨r0, trivial, rfl, rfl, fun k v hk => by cases hk⟩
  | (j, x) :: r, i, t :: ts, vs, ds, ps, hb, h, hz, hz2, hv => by
    simp only [argsB, Bool.and_eq_true] at hb
    obtain ⟨⟨⟨h1, h2⟩, h3⟩, h4⟩ := hb
    have h1 := Nat.eq_of_beq_eq_true h1
    subst h1
    have h2' := Nat.lt_of_succ_le (Nat.le_of_ble_eq_true h2)
    obtain ⟨v, vs, d, ds, p, q, rfl, rfl, rfl, hd, hr⟩ := trodAll_cons h
    simp only [DataW.weightsEach, List.mem_append] at hz
    simp only [lensAll, List.mem_append] at hz2
    obtain ⟨z1, g1, e1, c1, V1⟩ := args_in hF r0 (slots := r) (i := j + 1) h4 hr (fun n hn => hz n (.inr hn)) (fun n hn => hz2 n (.inr hn)) (fun k t v ht hv' => hv (k + 1) t v ht hv')
    obtain ⟨z, g, e, V⟩ := arg_in hF (R := slotsX R r) z1 h3 (hv 0 t v rfl rfl) hd ⟨fun n hn => hz n (.inl hn), fun n hn => hz2 n (.inl hn)⟩
    refine ⟨z, ⟨g, by rw [e]; exact g1⟩, ?_, ?_, fun k u hk => ?_⟩
    · show (unpackSlots r (unpackV x z).2).2 = r0
      rw [e]; exact e1
    · show (bif Nat.blt j 1000000 then cntB r + 1 else cntB r) = vs.length + 1
      rw [h2, c1]; rfl
    · have hk : get ((j, (unpackV x z).1) :: (unpackSlots r (unpackV x z).2).1) k = some u := hk
      rw [get_cons, e] at hk
      split at hk
      · rename_i ejk
        cases hk
        subst ejk
        exact ⟨Nat.le_refl _, h2', v, by simp, V⟩
      · obtain ⟨a1, a2, u', a3, a4⟩ := V1 k u hk
        refine ⟨by omega, a2, u', ?_, a4⟩
        rw [show k - j = (k - (j + 1)) + 1 from by omega]
        simpa using a3
  | [], _, _ :: _, _, _, _, hb, _, _, _, _ => by cases hb
  | _ :: _, _, [], _, _, _, hb, _, _, _, _ => by cases hb
end

theorem law_calls {H : Type} {enc : TypeId × Value → H} {P : Program} {g : FuncId} {slots : List (Nat × VSh)} {run : Nat → slotsX Unit slots → Option (Bool × Unit)} {tys : List TypeId}
    (hok : ∀ N, CallOk P g ⟨⟨slots, []⟩, ⟨[(0, .c .bool)], []⟩, [(false, .bool)], run N⟩) (hargs : argsB P 0 slots tys = true)
    {W : World} {base : Nat} {args : Array Value} {ds : List (DataW H)} {ps : List MemPlace} {spare : Nat → Bool} {held : Bool} (hn : args.size ≤ 1000000)
    (h : DataW.TrodAll enc P W 0 spare held tys args.toList ds ps) (hz : ∀ n ∈ DataW.weightsEach P tys ds, n ≤ reachBytes) {rb : Option Nat} (hz2 : ∀ n ∈ lensAll ds, bnd rb n) (hlaw : ∀ z, argsGoodR rb slots z → ∃ N, run N z = some (true, ())) (hv : ∀ (j : Nat) t v, tys[j]? = some t → args[j]? = some v → Value.okWide P W .any base t v) :
    Calls P g args W fun e W' => e = .returned (.bool true) ∧ Below W.heap.size W W' := by
  let fr : Fr := ⟨P, W, fun b => b < W.heap.size, fun _ => False, fun b => W.heap.size ≤ b, args.size, fun _ => Go.undef⟩
  let σ : Nat → Value := fun _ => Go.undef
  have hF : ∀ b, Old W b → Foot fr σ [] W true b := fun b hb => ⟨hb, fun ⟨_, _, h, _⟩ => (by cases h), .inr ⟨rfl, hb⟩⟩
  obtain ⟨z, hg, hr, hc, hV⟩ := args_in (fr := fr) (σ := σ) hF (base := base) () hargs h hz hz2 (fun j t v ht hv' => hv j t v ht (by simpa using hv'))
  obtain ⟨N, hN⟩ := hlaw z hg
  obtain ⟨_, _, hf⟩ := hok N
  have R : RelS fr σ (unpack ⟨slots, []⟩ z) ⟨args, []⟩ W := by
    refine ⟨⟨rfl, rfl, rfl, Nat.le_refl _, fun _ _ _ => rfl, fun k hk => hk, fun k hk => .inl hk⟩, fun b hb => hb, fun _ _ _ _ h => (by cases h), fun _ _ h => (by cases h), fun k v hk => ?_, rfl, hn, rfl⟩
    obtain ⟨_, h2, u, hu, hVu⟩ := hV k v hk
    have : fr.val ⟨args, []⟩ k = u := by
      unfold Fr.val
      rw [if_pos h2]
      have hu' : args[k]? = some u := by simpa using hu
      simp [Array.getD_eq_getD_getElem?, hu']
    rw [this]
    exact hVu
  have e1 : args.toList.toArray = args := by simp
  have := hf z (true, ()) hN fr σ args.toList rfl (by simp [fr]) hc.symm (by rw [e1]; exact R)
  rw [e1] at this
  refine this.mono ?_
  rintro (v | _) w' hres
  case returned =>
    obtain ⟨σ', us', rfl, hl, R'⟩ := hres
    have hl : us'.length = 1 := hl
    match us', hl with
    | [u], _ =>
      have := R'.env 0 (.c (.bool true)) rfl
      have hu : u = .bool true := this
      refine ⟨by rw [hu]; rfl, ?_⟩
      have K := R'.kept
      exact ⟨K.os, K.tape, K.output, K.size, fun k hk => K.block k hk (fun h => h)⟩
  all_goals exact absurd hres (fun h => h)

theorem back_all {H : Type} {enc : TypeId × Value → H} {P : Program} (hl : laidOutB P = true) {W W' : World} (hb : Below W.heap.size W W') : ∀ {tys : List TypeId} {vs : List Value} {ds : List (DataW H)} {ps : List MemPlace},
    (tys.all fun t => P.readableRec t && decide (t < P.types.size)) = true → DataW.TrodAll enc P W 0 (fun _ => true) true tys vs ds ps → ∃ q, DataW.TrodAll enc P W' 0 (fun b => decide (b < W.heap.size)) true tys vs ds q
  | [], vs, ds, ps, _, h => by
    obtain ⟨rfl, rfl, rfl⟩ := trodAll_nil h
    exact ⟨[], trodAll_mk0⟩
  | t :: ts, vs, ds, ps, ht, h => by
    simp only [List.all_cons, Bool.and_eq_true] at ht
    obtain ⟨v, vs, d, ds, p, q, rfl, rfl, rfl, hd, hr⟩ := trodAll_cons h
    obtain ⟨q', hq⟩ := back_all hl hb ht.2 hr
    have lt : ∀ x ∈ p, x.block < W.heap.size := by obtain ⟨m, hm⟩ := hd; exact DataW.trod_lt m _ _ _ hm
    exact ⟨_, trodAll_cons_mk (Below.trod hl ht.1.1 (of_decide_eq_true ht.1.2) hd hb lt) hq⟩

theorem trodAll_len {H : Type} {enc : TypeId × Value → H} {P : Program} {W : World} {base : Nat} {spare : Nat → Bool} {held : Bool} : ∀ {tys : List TypeId} {vs : List Value} {ds : List (DataW H)} {ps : List MemPlace}, DataW.TrodAll enc P W base spare held tys vs ds ps → ds.length = tys.length
  | [], vs, ds, ps, h => by obtain ⟨rfl, rfl, rfl⟩ := trodAll_nil h; rfl
  | t :: ts, vs, ds, ps, h => by
    obtain ⟨v, vs, d, ds, p, q, rfl, rfl, rfl, hd, hr⟩ := trodAll_cons h
    rw [List.length_cons, List.length_cons, trodAll_len hr]

/-- The law, lifted to what its row asks. -/
theorem law_lifted {C : Checked} {g : FuncId} {fn : Func} {s : ChangeSpec} {slots : List (Nat × VSh)} {run : Nat → slotsX Unit slots → Option (Bool × Unit)} {rt : TypeId} {conds : List PathCond}
    (hok : ∀ N, CallOk C.prog g ⟨⟨slots, []⟩, ⟨[(0, .c .bool)], []⟩, [(false, .bool)], run N⟩) (hlaw : ∀ z, argsGood slots z → ∃ N, run N z = some (true, ()))
    (own : ownKnob C.prog.godebug = none) (laid : laidOutB C.prog = true) (noInit : C.prog.inits.idxOf? g = none) (hfn : C.prog.funcs[g]? = some fn) (hargs : argsB C.prog 0 slots fn.params.toList = true)
    (hread : (fn.params.toList.all fun t => C.prog.readableRec t && decide (t < C.prog.types.size)) = true) (hn : fn.params.size ≤ 1000000) (hrt : fn.resultTypes = #[rt]) (hbool : C.prog.underlying rt = some .bool)
    (hsv : s.vars = []) (hsf : ∀ (H : Type) (ds : List (DataW H)), ds.length = fn.params.toList.length → s.fn H ds = { results := [.lit (.bool true)], args := ds })
    (os : Os) (started : os.Started) (H : Type) (enc : TypeId × Value → H)
    (witness : ∃ (w : World) (tape : Tape) (i : Input), w.os = os ∧ (w.forCall tape i).Shaped C.prog ∧ i.vars = [] ∧ Input.okWide C.prog (w.forCall tape i) .any w.heap.size g i ∧
      s.pre6 enc C.prog fn conds false (w.forCall tape i).memory i.args ∧ Assume.holds {} C.prog (lone (Frame.enter C.prog g i.args .normal) [] (w.forCall tape i))) :
    ReturnsInHanded {} C os g .any (s.pre6 enc C.prog fn conds false) (s.post enc C.prog fn false true false false) := by
  refine returnsInHanded_of_change_sized own started noInit hfn witness ?_
  intro W base args ds gs before hval hW _ hsz _
  have hW' := hW
  obtain ⟨p, q, hA, hVv, rfl, hfz, hnd⟩ := hW
  rw [hsv] at hVv
  obtain ⟨rfl, rfl⟩ := trodVars_none hVv
  have hvt : s.plain.varTypes C.prog = [] := by
    unfold ChangeSpec.plain
    rw [hsv]; rfl
  rw [hvt, List.append_nil, List.append_nil] at hsz
  have hlen : args.toList.length = fn.params.toList.length := by
    have : ∀ {tys : List TypeId} {vs : List Value} {ds : List (DataW H)} {ps : List MemPlace}, DataW.TrodAll enc C.prog W 0 (fun _ => true) true tys vs ds ps → vs.length = tys.length := by
      intro tys
      induction tys with
      | nil => intro vs ds ps h; obtain ⟨rfl, rfl, rfl⟩ := trodAll_nil h; rfl
      | cons t ts ih =>
        intro vs ds ps h
        obtain ⟨v, vs, d, ds, p, q, rfl, rfl, rfl, hd, hr⟩ := trodAll_cons h
        rw [List.length_cons, List.length_cons, ih hr]
    exact this hA
  refine (law_calls hok hargs (base := base) (by simp at hlen; omega) hA (fun n hn => of_decide_eq_true (List.all_eq_true.1 hsz n hn)) (rb := none) (fun _ _ => trivial) hlaw (fun j t v ht hv => hval j t v (by simpa using ht) hv)).mono fun e W' ⟨he, bel⟩ => ?_
  subst he
  obtain ⟨q', hq⟩ := back_all laid bel hread hA
  have hs := hsf H ds (trodAll_len hA)
  refine ⟨_, rfl, ds, [], _, [], q', [], hW', ?_, ?_, ?_, bel.frame _, fun h => by cases h⟩
  · rw [List.append_nil, hs, hrt]
    exact trodAll_mk1 (shut_bool hbool _)
  · rw [List.append_nil, hs]
    exact hq
  · rw [List.append_nil, hs, hsv]
    rfl
/-- The law, lifted to what its row asks, where the row bears a condition. -/
theorem law_lifted_cond {C : Checked} {g : FuncId} {fn : Func} {s : ChangeSpec} {k : (H : Type) → List (DataW H) → Bool} {S : OpenSpec} (hS : S = { OpenSpec.ofChange s with cond := some k }) {rb : Option Nat} (hcond : ∀ (H : Type) (ds : List (DataW H)), k H ds = true → ∀ n ∈ lensAll ds, bnd rb n) (F : Stop.Interp) {slots : List (Nat × VSh)} {run : Nat → slotsX Unit slots → Option (Bool × Unit)} {rt : TypeId} {conds : List PathCond}
    (hok : ∀ N, CallOk C.prog g ⟨⟨slots, []⟩, ⟨[(0, .c .bool)], []⟩, [(false, .bool)], run N⟩) (hlaw : ∀ z, argsGoodR rb slots z → ∃ N, run N z = some (true, ()))
    (own : ownKnob C.prog.godebug = none) (laid : laidOutB C.prog = true) (noInit : C.prog.inits.idxOf? g = none) (hfn : C.prog.funcs[g]? = some fn) (hargs : argsB C.prog 0 slots fn.params.toList = true)
    (hread : (fn.params.toList.all fun t => C.prog.readableRec t && decide (t < C.prog.types.size)) = true) (hn : fn.params.size ≤ 1000000) (hrt : fn.resultTypes = #[rt]) (hbool : C.prog.underlying rt = some .bool)
    (hsv : s.vars = []) (hsf : ∀ (H : Type) (ds : List (DataW H)), ds.length = fn.params.toList.length → s.fn H ds = { results := [.lit (.bool true)], args := ds })
    (os : Os) (started : os.Started) (H : Type) (enc : TypeId × Value → H)
    (witness : ∃ (w : World) (tape : Tape) (i : Input), w.os = os ∧ (w.forCall tape i).Shaped C.prog ∧ i.vars = [] ∧ Input.okWide C.prog (w.forCall tape i) .any w.heap.size g i ∧
      S.pre6 enc C.prog fn conds false (w.forCall tape i).memory i.args ∧ Assume.holds {} C.prog (lone (Frame.enter C.prog g i.args .normal) [] (w.forCall tape i))) :
    ReturnsInHanded {} C os g .any (S.pre6 enc C.prog fn conds false) ((S.at F).post enc C.prog fn false true false false) := by
  subst hS
  refine returnsInHanded_of_cond_sized (k := k) rfl own started noInit hfn witness ?_
  intro W base args ds gs before hval hW _ hk hsz _
  show Calls C.prog g args W fun e W' => ∃ v, e = .returned v ∧ s.post enc C.prog fn false true false false W args v W'
  have hW' := hW
  obtain ⟨p, q, hA, hVv, rfl, hfz, hnd⟩ := hW
  have hVv : DataW.TrodVars enc C.prog W (fun _ => true) s.vars _ _ := hVv
  rw [hsv] at hVv
  obtain ⟨rfl, rfl⟩ := trodVars_none hVv
  rw [List.append_nil] at hk
  have hvt : (OpenSpec.bare { OpenSpec.ofChange s with cond := some k }).plain.varTypes C.prog = [] := by
    show s.plain.varTypes C.prog = []
    unfold ChangeSpec.plain
    rw [hsv]; rfl
  rw [hvt, List.append_nil, List.append_nil] at hsz
  have hlen : args.toList.length = fn.params.toList.length := by
    have : ∀ {tys : List TypeId} {vs : List Value} {ds : List (DataW H)} {ps : List MemPlace}, DataW.TrodAll enc C.prog W 0 (fun _ => true) true tys vs ds ps → vs.length = tys.length := by
      intro tys
      induction tys with
      | nil => intro vs ds ps h; obtain ⟨rfl, rfl, rfl⟩ := trodAll_nil h; rfl
      | cons t ts ih =>
        intro vs ds ps h
        obtain ⟨v, vs, d, ds, p, q, rfl, rfl, rfl, hd, hr⟩ := trodAll_cons h
        rw [List.length_cons, List.length_cons, ih hr]
    exact this hA
  refine (law_calls hok hargs (base := base) (by simp at hlen; omega) hA (fun n hn => of_decide_eq_true (List.all_eq_true.1 hsz n hn)) (rb := rb) (hcond H ds hk) hlaw (fun j t v ht hv => hval j t v (by simpa using ht) hv)).mono fun e W' ⟨he, bel⟩ => ?_
  subst he
  obtain ⟨q', hq⟩ := back_all laid bel hread hA
  have hs := hsf H ds (trodAll_len hA)
  refine ⟨_, rfl, ds, [], _, [], q', [], hW', ?_, ?_, ?_, bel.frame _, fun h => by cases h⟩
  · rw [List.append_nil, hs, hrt]
    exact trodAll_mk1 (shut_bool hbool _)
  · rw [List.append_nil, hs]
    exact hq
  · rw [List.append_nil, hs, hsv]
    rfl
end Go.Proofs.YtkadllkeekoopaaGreat.Abs
end
