import Derived.Laws.IdiomStrings
import Derived.Laws.BytesString
import Derived.Laws.Strings
import Derived.Laws.Concat
import Derived.BigCall
import Derived.Laws.Shifts
import Derived.Laws.Slices
import Derived.ChangeKeysEq
import Derived.Lib.SlBytesConst
import Derived.Laws.Tables
import Derived.Test.YtkadllkeekoopaaGreatAbsA
set_option linter.unusedVariables false
set_option linter.unusedSimpArgs false
section
namespace Go.Proofs.YtkadllkeekoopaaGreat.Abs
open Go.RowKit

def Goes {ρ : Type} (fr : Fr) (o : Oper) (a : Act) (w : World) (K : V → St → Option ρ) (r : ρ) : Prop :=
  ∀ next Q, (∀ v s' σ' u w', K v s' = some r → RelS fr σ' s' a w' → VR fr σ' s'.T w' v u → next (a.put o.dst u) w') → o.wp fr.P a w next Q

section
variable {ρ : Type} {G : Ctx} {fr : Fr} {σ : Nat → Value} {s : St} {a : Act} {w : World} {o : Oper} {K : V → St → Option ρ} {r : ρ}
theorem Goes.val {w' : World} {u : Value} {v : V} {s' : St} {σ' : Nat → Value} (h : (execOp a.eval o).run fr.P w = .ok (.value u) w') (hK : K v s' = some r) (R : RelS fr σ' s' a w') (hv : VR fr σ' s'.T w' v u) : Goes fr o a w K r := by
  intro next Q hn
  unfold Oper.wp
  rw [h]
  exact hn v s' σ' u w' hK R hv
theorem Goes.skip {w' : World} {s' : St} {σ' : Nat → Value} (h : (execOp a.eval o).run fr.P w = .ok .skip w') (hK : K .undef s' = some r) (R : RelS fr σ' s' a w') : Goes fr o a w K r := by
  intro next Q hn
  unfold Oper.wp
  rw [h]
  exact hn .undef s' σ' Go.undef w' hK R trivial

/-! ## Operands -/
theorem ev_spec (R : RelS fr σ s a w) {x : Operand} {v : V} (h : ev s x = some v) : VR fr σ s.T w v (a.eval x) := by
  cases x with
  | tmp t => exact R.envT h
  | const c =>
    simp only [ev] at h
    unfold constV at h
    split at h
    · cases h; exact rfl
    · cases h; exact rfl
    · cases h; exact ⟨_, rfl, rfl⟩
    · cases h; exact rfl
    · cases h
  | global g => cases h
  | func f => cases h
theorem evC_spec (R : RelS fr σ s a w) {x : Operand} {c : C} (h : evC s x = some c) : CR fr σ s.T w c (a.eval x) := by
  unfold evC at h
  split at h
  · rename_i c' he
    cases h
    exact ev_spec R he
  · cases h
theorem evI_spec (R : RelS fr σ s a w) {x : Operand} {n : Int} (h : evI s x = some n) : ∃ k, a.eval x = .int k n := by
  unfold evI at h
  split at h
  · rename_i k n' he
    cases h
    exact ⟨k, ev_spec R he⟩
  · cases h
theorem evO_spec (R : RelS fr σ s a w) {x : Option Operand} {n : Option Int} (h : evO s x = some n) : (n = none ∧ x = none) ∨ ∃ k m y, n = some m ∧ x = some y ∧ a.eval y = .int k m := by
  cases x with
  | none => cases h; exact .inl ⟨rfl, rfl⟩
  | some y =>
    simp only [evO] at h
    split at h
    · rename_i m he
      cases h
      obtain ⟨k, hk⟩ := evI_spec R he
      exact .inr ⟨k, m, y, rfl, rfl, hk⟩
    · cases h

theorem goes_move {x : Operand} (R : RelS fr σ s a w) (ho : o.op = .move x ∨ o.op = .assign x) (h : (match ev s x with | some v => K v s | none => none) = some r) : Goes fr o a w K r := by
  split at h
  · rename_i v hv
    refine Goes.val (u := a.eval x) ?_ h R (ev_spec R hv)
    rcases ho with ho | ho <;> simp [execOp, ho]
  · cases h

theorem goes_pick {c x y : Operand} (R : RelS fr σ s a w) (ho : o.op = .pick c x y) {b : Bool} (hc : evC s c = some (.bool b)) {v : V} (hv : VR fr σ s.T w v (if b then a.eval x else a.eval y)) (hK : K v s = some r) : Goes fr o a w K r := by
  refine Goes.val (u := if b then a.eval x else a.eval y) ?_ hK R hv
  have : a.eval c = .bool b := evC_spec R hc
  simp [execOp, ho, this, asBool]

/-! ## Numbers, truth values, texts -/
theorem intBin_spec {op : BinOp} {k : IntKind} {x y : Int} {K : C → Option ρ} (h : intBin op k x y K = some r) (t : TypeId) (p q : Operand) (P : Program) (w : World) (hsh : op ≠ .shl ∧ op ≠ .shr) :
    ∃ c u, K c = some r ∧ (do eqGuard op t p q (.int k x) (.int k y); binOp op t (.int k x) (.int k y) : Sem Value).run P w = .ok u w ∧ ∀ fr σ T w', CR fr σ T w' c u := by
  have eg : eqGuard op t p q (.int k x) (.int k y) = pure () := eqGuard_at_int op t p q _ k x
  cases op <;> simp only [intBin] at h
  case add => exact ⟨_, _, h, by simp [eg, binOp_add, Op.intArith], fun _ _ _ _ => rfl⟩
  case sub => exact ⟨_, _, h, by simp [eg, binOp_sub, Op.intArith], fun _ _ _ _ => rfl⟩
  case mul => exact ⟨_, _, h, by simp [eg, binOp_mul, Op.intArith], fun _ _ _ _ => rfl⟩
  case quo =>
    split at h
    · cases h
    · rename_i hy
      exact ⟨_, _, h, by simp [eg, binOp_quo, Op.intDiv, hy], fun _ _ _ _ => rfl⟩
  case rem =>
    split at h
    · cases h
    · rename_i hy
      exact ⟨_, _, h, by simp [eg, binOp_rem, Op.intDiv, hy], fun _ _ _ _ => rfl⟩
  case and => exact ⟨_, _, h, by simp [eg, binOp_and, intBits_and], fun _ _ _ _ => rfl⟩
  case or => exact ⟨_, _, h, by simp [eg, binOp_or, intBits_or], fun _ _ _ _ => rfl⟩
  case xor => exact ⟨_, _, h, by simp [eg, binOp_xor, intBits_xor], fun _ _ _ _ => rfl⟩
  case andNot => exact ⟨_, _, h, by simp [eg, binOp_andNot, intBits_andNot], fun _ _ _ _ => rfl⟩
  case eql => exact ⟨_, .bool (x == y), h, by simp [eg, binOp_eql], fun _ _ _ _ => by simp [CR]; rfl⟩
  case neq => exact ⟨_, .bool (x != y), h, by simp [eg, binOp_neq], fun _ _ _ _ => by simp [CR, bne]; rfl⟩
  case lss => exact ⟨_, .bool (decide (x < y)), h, by simp [eg, binOp_lss], fun _ _ _ _ => rfl⟩
  case leq => exact ⟨_, .bool (decide (x ≤ y)), h, by simp [eg, binOp_leq], fun _ _ _ _ => rfl⟩
  case gtr => exact ⟨_, .bool (decide (x > y)), h, by simp [eg, binOp_gtr], fun _ _ _ _ => rfl⟩
  case geq => exact ⟨_, .bool (decide (x ≥ y)), h, by simp [eg, binOp_geq], fun _ _ _ _ => rfl⟩
  all_goals simp_all

theorem less_total : ∀ (x y : List UInt8), (Op.bytesLess x y || x == y) = !(Op.bytesLess y x)
  | [], [] => rfl
  | [], _ :: _ => rfl
  | _ :: _, [] => rfl
  | a :: x, b :: y => by
    have ih := less_total x y
    simp only [Op.bytesLess]
    by_cases hab : a < b
    · have h1 : ¬ b < a := UInt8.not_lt.mpr (UInt8.le_of_lt hab)
      have h2 : ¬ b = a := fun e => UInt8.lt_irrefl _ (e ▸ hab)
      simp [hab, h1, h2]
    · by_cases hba : b < a
      · have h2 : ¬ a = b := fun e => UInt8.lt_irrefl _ (e ▸ hba)
        simp [hab, hba, h2]
      · have e : a = b := UInt8.le_antisymm (UInt8.not_lt.mp hba) (UInt8.not_lt.mp hab)
        subst e
        simpa using ih
theorem strBin_spec {op : BinOp} {x y : ByteArray} {K : C → Option ρ} (h : strBin op x.data.toList y.data.toList K = some r) (t : TypeId) (p q : Operand) (P : Program) (w : World) :
    ∃ c u, K c = some r ∧ (do eqGuard op t p q (.string x) (.string y); binOp op t (.string x) (.string y) : Sem Value).run P w = .ok u w ∧ ∀ fr σ T w', CR fr σ T w' c u := by
  have eg : eqGuard op t p q (.string x) (.string y) = pure () := eqGuard_at_string op t p q _ x
  have ex := ByteArray.toList_eq x
  have ey := ByteArray.toList_eq y
  have hb : ∀ (op : BinOp), binOp op t (.string x) (.string y) = Op.stringOp op x y := fun op => by cases op <;> rfl
  cases op <;> simp only [strBin] at h <;> try cases h
  case add =>
    split at h
    · rename_i hl
      have hl' : x.size + y.size ≤ 9223372036854775807 := by rw [Array.length_toList, Array.length_toList] at hl; exact hl
      refine ⟨_, _, h, ?_, fun _ _ _ _ => ⟨x ++ y, rfl, by simp⟩⟩
      simp [eg, hb, run_string_add_sum, hl']
    · cases h
  case eql => exact ⟨_, _, h, by simp [eg, hb, Op.stringOp]; rfl, fun _ _ _ _ => by rw [ex, ey]; rfl⟩
  case neq => exact ⟨_, _, h, by simp [eg, hb, Op.stringOp]; rfl, fun _ _ _ _ => by rw [ex, ey]; rfl⟩
  case lss => exact ⟨_, _, h, by simp [eg, hb, Op.stringOp]; rfl, fun _ _ _ _ => by rw [ex, ey]; rfl⟩
  case leq => exact ⟨_, _, h, by simp [eg, hb, Op.stringOp, less_total]; rfl, fun _ _ _ _ => by rw [ex, ey]; rfl⟩
  case gtr => exact ⟨_, _, h, by simp [eg, hb, Op.stringOp, less_total]; rfl, fun _ _ _ _ => by rw [ex, ey]; rfl⟩
  case geq => exact ⟨_, _, h, by simp [eg, hb, Op.stringOp]; rfl, fun _ _ _ _ => by rw [ex, ey]; rfl⟩

theorem feqN_of (H : TIs fr.P G) {t : TypeId} {l : List Ty} (h : feqN G t = some l) : feqB fr.P t l = true := by
  unfold feqN at h
  split at h
  · rename_i τ ht
    exact (H t τ ht).feq l h
  · cases h
theorem aeqN_of (H : TIs fr.P G) {t : TypeId} {k : IntKind} {n : Nat} (h : aeqN G t = some (n, k)) : aeqB fr.P t k = true ∧ ∀ n' e, fr.P.underlying t = some (.array n' e) → n' = n := by
  unfold aeqN at h
  split at h
  · rename_i m u ht
    split at h
    case h_2 => cases h
    rename_i k' hk
    cases h
    have hT := H t _ ht
    refine ⟨hT.aeq k hk, fun n' e hu => ?_⟩
    obtain ⟨f, d, z, _, h2, _, _, _, _, h7⟩ := hT.ex
    rw [hu] at h2
    cases h2
    simp only [descB, Bool.and_eq_true] at h7
    exact Nat.eq_of_beq_eq_true h7.1.1.1.1
  · cases h
section
variable {P : Program} {w : World}
theorem plain_kind {e : TypeId} {k : Ty} (h : kindB P e k = true) : P.plainKey e = true := by
  unfold kindB at h
  unfold Program.plainKey
  split at h <;> first | cases h; done | (split at h <;> first | (rename_i hu; rw [hu]) | cases h)
theorem cell_eq {c d : C} {k : Ty} {b : Bool} {l : List Ty} {cs ds : List C} (hc : cmpB (k :: l) (c :: cs) = true) (hd : cmpB (k :: l) (d :: ds) = true) (h : eqC c d = some b) {u v : Value} (hu : CR fr σ s.T w c u) (hv : CR fr σ s.T w d v) {e : TypeId} (hp : kindB P e k = true) (n : Nat) :
    (Op.equalIn (n + 1) e u v).run P w = .ok b w ∧ cmpB l cs = true ∧ cmpB l ds = true := by
  cases k <;> cases c <;> simp only [cmpB] at hc <;> try cases hc
  · cases d <;> simp only [cmpB] at hd <;> try cases hd
    rename_i k0 k1 a k2 b'
    simp only [Bool.and_eq_true, decide_eq_true_eq] at hc hd
    obtain ⟨rfl, hc⟩ := hc
    obtain ⟨rfl, hd⟩ := hd
    simp only [eqC, if_true] at h
    cases h
    have hu : u = .int k0 a := hu
    have hv : v = .int k0 b' := hv
    subst hu hv
    refine ⟨?_, hc, hd⟩
    simp only [kindB] at hp
    split at hp
    · rename_i k' hue
      rw [run_equalIn_int w n e k0 k' a b' hue]
      rfl
    · cases hp
  · rename_i a
    cases d <;> simp only [cmpB] at hd <;> try cases hd
    rename_i b'
    simp only [eqC] at h
    cases h
    have hu : u = .bool a := hu
    have hv : v = .bool b' := hv
    subst hu hv
    refine ⟨?_, hc, hd⟩
    simp only [kindB] at hp
    split at hp
    · rename_i hue
      exact run_equalIn_bool w n e a b' hue
    · cases hp
  · cases d <;> simp only [cmpB] at hd <;> try cases hd
    simp only [eqC] at h
    cases h
    obtain ⟨bx, rfl, rfl⟩ := hu
    obtain ⟨by', rfl, rfl⟩ := hv
    refine ⟨?_, hc, hd⟩
    simp only [kindB] at hp
    split at hp
    · rename_i hue
      rw [run_equalIn_string w n e bx by' hue, ByteArray.toList_eq, ByteArray.toList_eq]
    · cases hp
theorem eqFields_flat {n : Nat} {xs ys : Array Value} : ∀ (fs : List Field) (l : List Ty) (i : Nat) (cs ds : List C) (b : Bool), flatF P i l fs = true → cmpB l cs = true → cmpB l ds = true → eqCs cs ds = some b → CRs fr σ s.T w cs (xs.toList.drop i) → CRs fr σ s.T w ds (ys.toList.drop i) → (Op.eqFields (n + 1) xs ys fs).run P w = .ok b w
  | [], l, i, cs, ds, b, hf, hc, hd, h, _, _ => by
    cases l with
    | cons _ _ => cases hf
    | nil =>
      cases cs with
      | cons _ _ => cases hc
      | nil =>
        cases ds with
        | cons _ _ => cases hd
        | nil =>
          simp only [eqCs] at h
          cases h
          simp [Op.eqFields]
  | f :: fs, l, i, cs, ds, b, hf, hc, hd, h, hx, hy => by
    cases l with
    | nil => cases hf
    | cons k l =>
      simp only [flatF, Bool.and_eq_true, Bool.not_eq_true'] at hf
      obtain ⟨⟨⟨hname, hoff⟩, hk⟩, hrest⟩ := hf
      have hoff := Nat.eq_of_beq_eq_true hoff
      cases cs with
      | nil => cases k <;> cases hc
      | cons c cs =>
        cases ds with
        | nil => cases k <;> cases hd
        | cons d ds =>
          cases hxl : xs.toList.drop i with
          | nil => rw [hxl] at hx; exact hx.elim
          | cons u us =>
            cases hyl : ys.toList.drop i with
            | nil => rw [hyl] at hy; exact hy.elim
            | cons v vs =>
              rw [hxl] at hx
              rw [hyl] at hy
              have hxi : xs[i]? = some u := by
                have : (xs.toList.drop i)[0]? = some u := by rw [hxl]; rfl
                rw [List.getElem?_drop] at this
                simpa using this
              have hyi : ys[i]? = some v := by
                have : (ys.toList.drop i)[0]? = some v := by rw [hyl]; rfl
                rw [List.getElem?_drop] at this
                simpa using this
              have hxr : xs.toList.drop (i + 1) = us := by rw [← List.drop_drop, hxl]; rfl
              have hyr : ys.toList.drop (i + 1) = vs := by rw [← List.drop_drop, hyl]; rfl
              obtain ⟨b1, hb1, hcase⟩ : ∃ b1, eqC c d = some b1 ∧ ((cs = [] ∧ ds = [] ∧ b = b1) ∨ ∃ b2, eqCs cs ds = some b2 ∧ b = (b1 && b2)) := by
                cases cs with
                | nil =>
                  cases ds with
                  | nil => exact ⟨b, h, .inl ⟨rfl, rfl, rfl⟩⟩
                  | cons d' ds =>
                    simp only [eqCs] at h
                    split at h <;> cases h
                | cons c' cs =>
                  simp only [eqCs] at h
                  split at h
                  · rename_i b1 hb1
                    split at h
                    · rename_i b2 hb2
                      cases h
                      exact ⟨b1, hb1, .inr ⟨b2, hb2, rfl⟩⟩
                    · cases h
                  · cases h
              obtain ⟨e1, hc', hd'⟩ := cell_eq (P := P) hc hd hb1 hx.1 hy.1 hk n
              have hname' : f.name ≠ "_" := by simpa using hname
              have p1 := run_part_plain (w := w) (off := f.offset) (plain_kind hk) (by rw [hoff]; exact hxi)
              have p2 := run_part_plain (w := w) (off := f.offset) (plain_kind hk) (by rw [hoff]; exact hyi)
              rw [Op.eqFields, if_pos hname']
              simp only [Sem.run_bind, p1, p2, e1, Result.andThen_ok]
              rcases hcase with ⟨rfl, rfl, rfl⟩ | ⟨b2, hb2, rfl⟩
              · have ih := eqFields_flat (n := n) fs l (i + 1) [] [] true hrest hc' hd' rfl (by rw [hxr]; exact hx.2) (by rw [hyr]; exact hy.2)
                cases b
                · simp
                · simpa using ih
              · have ih := eqFields_flat (n := n) fs l (i + 1) cs ds b2 hrest hc' hd' hb2 (by rw [hxr]; exact hx.2) (by rw [hyr]; exact hy.2)
                cases b1
                · simp
                · simpa using ih
theorem eqItems_int {n : Nat} {e : TypeId} {k : IntKind} (hk : kindB P e (.int k) = true) {xs ys : Array Value} (h1 : P.cellsOf e = 1) : ∀ (is : List Nat) (f g : Nat → Int), (∀ i ∈ is, xs[i]? = some (.int k (f i)) ∧ ys[i]? = some (.int k (g i))) → (Op.eqItems (n + 1) e (P.cellsOf e) xs ys is).run P w = .ok (is.all fun i => decide (f i = g i)) w
  | [], f, g, _ => by simp [Op.eqItems]
  | i :: is, f, g, h => by
    obtain ⟨hx, hy⟩ := h i List.mem_cons_self
    have p1 := run_part_plain (w := w) (plain_kind hk) (off := i * P.cellsOf e) (by rw [h1, Nat.mul_one]; exact hx)
    have p2 := run_part_plain (w := w) (plain_kind hk) (off := i * P.cellsOf e) (by rw [h1, Nat.mul_one]; exact hy)
    have ih := eqItems_int (n := n) hk h1 is f g fun j hj => h j (List.mem_cons_of_mem _ hj)
    have hu : P.underlying e = some (.int k) := by
      simp only [kindB] at hk
      split at hk
      · rename_i k' hu
        rw [hu, show k = k' by simpa using hk]
      · cases hk
    have e1 := run_equalIn_int w n e k k (f i) (g i) hu
    simp only [Op.eqItems, Sem.run_bind, p1, p2, e1, Result.andThen_ok]
    by_cases hfg : f i = g i
    · simp [hfg]
      exact ih
    · simp [hfg]
end
theorem binV_spec (H : TIs fr.P G) {op : BinOp} {t : TypeId} {x y : V} {u u' : Value} {K : C → Option ρ} (h : binV (isBoolT G t) (feqN G t) (aeqN G t) op x y K = some r) (hx : VR fr σ s.T w x u) (hy : VR fr σ s.T w y u') (p q : Operand) :
    ∃ c v, K c = some r ∧ (do eqGuard op t p q u u'; binOp op t u u' : Sem Value).run fr.P w = .ok v w ∧ ∀ fr σ T w', CR fr σ T w' c v := by
  unfold binV at h
  split at h
  · rename_i k m k' n
    have hx : u = .int k m := hx
    have hy : u' = .int k' n := hy
    subst hx hy
    have eg : ∀ op, eqGuard op t p q (.int k m) (.int k' n) = pure () := fun op => eqGuard_at_int op t p q _ k m
    split at h
    · split at h
      · cases h
      · rename_i hn
        exact ⟨_, _, h, by simp [eg, binOp_shl, shift_shl_any _ _ _ _ (Int.not_lt.mp hn)], fun _ _ _ _ => rfl⟩
    · split at h
      · cases h
      · rename_i hn
        exact ⟨_, _, h, by simp [eg, binOp_shr, shift_shr_any _ _ _ _ (Int.not_lt.mp hn)], fun _ _ _ _ => rfl⟩
    · rename_i h1 h2
      split at h
      · rename_i e
        subst e
        exact intBin_spec h t p q fr.P w ⟨h1, h2⟩
      · cases h
  · obtain ⟨bx, rfl, rfl⟩ := hx
    obtain ⟨by', rfl, rfl⟩ := hy
    exact strBin_spec h t p q fr.P w
  · rename_i cs ds
    split at h
    case h_1 => cases h
    rename_i l hl
    rcases ble_of h with ⟨hb, h'⟩ | ⟨_, h'⟩
    case inr => cases h'
    simp only [Bool.and_eq_true] at hb
    obtain ⟨xs, rfl, hX⟩ := hx
    obtain ⟨ys, rfl, hY⟩ := hy
    split at h'
    case h_1 => cases h'
    rename_i b hbb
    have hfe := feqN_of H hl
    unfold feqB at hfe
    simp only [Bool.and_eq_true, Bool.not_eq_true'] at hfe
    obtain ⟨h1, hgd⟩ := hfe
    have heq : (Op.equal t (.agg xs) (.agg ys)).run fr.P w = .ok b w := by
      split at h1
      · rename_i fs hu
        simp only [Bool.and_eq_true, Bool.not_eq_true'] at h1
        have hf : fr.P.fieldsOf t = fs := by simp [Program.fieldsOf, hu]
        have := run_equalIn_struct (P := fr.P) w 9999 t xs ys (by rw [hf]; exact hu) h1.2
        rw [hf] at this
        show (Op.equalIn (9999 + 1) t (.agg xs) (.agg ys)).run fr.P w = _
        rw [this]
        exact eqFields_flat (n := 9998) fs.toList l 0 cs ds b h1.1 hb.1 hb.2 hbb hX hY
      · cases h1
    have eg : ∀ op, (eqGuard op t p q (.agg xs) (.agg ys)).run fr.P w = .ok () w := fun op => by
      cases op <;> simp [eqGuard, hgd]
    cases op <;> simp only [] at h' <;> try cases h'
    · refine ⟨_, _, h', ?_, fun _ _ _ _ => rfl⟩
      have : binOp .eql t (.agg xs) (.agg ys) = (do pure (.bool (← Op.equal t (.agg xs) (.agg ys)))) := rfl
      simp [Sem.run_bind, eg, this, heq]
    · refine ⟨_, _, h', ?_, fun _ _ _ _ => rfl⟩
      have : binOp .neq t (.agg xs) (.agg ys) = (do pure (.bool (!(← Op.equal t (.agg xs) (.agg ys))))) := rfl
      simp [Sem.run_bind, eg, this, heq]
  · rename_i n k ns m k' ms
    split at h
    case h_1 => cases h
    rename_i q0 q' hl
    rcases ble_of h with ⟨hb, h'⟩ | ⟨_, h'⟩
    case inr => cases h'
    simp only [Bool.and_eq_true, decide_eq_true_eq] at hb
    obtain ⟨⟨⟨hnm, rfl⟩, rfl⟩, hnp⟩ := hb
    have hnp := Nat.eq_of_beq_eq_true hnp
    subst hnp
    have hnm := Nat.eq_of_beq_eq_true hnm
    subst hnm
    obtain ⟨xs, rfl, hX⟩ := hx
    obtain ⟨ys, rfl, hY⟩ := hy
    obtain ⟨hae, hlen⟩ := aeqN_of H hl
    unfold aeqB at hae
    simp only [Bool.and_eq_true, Bool.not_eq_true'] at hae
    obtain ⟨h1, hgd⟩ := hae
    have heq : (Op.equal t (.agg xs) (.agg ys)).run fr.P w = .ok (decide (ns = ms)) w := by
      split at h1
      · rename_i n' e hu
        simp only [Bool.and_eq_true] at h1
        obtain ⟨⟨hk, hc1⟩, hinf⟩ := h1
        have hc1 := Nat.eq_of_beq_eq_true hc1
        cases hi : fr.P.info? e with
        | none => rw [hi] at hinf; cases hinf
        | some inf =>
          -- the type's number of elements is not known to be n: all that are there are compared
          have := run_equalIn_array (P := fr.P) w 9999 xs ys hu hi
          show (Op.equalIn (9999 + 1) t (.agg xs) (.agg ys)).run fr.P w = _
          rw [this]
          have hn : n' = n := hlen n' e hu
          subst hn
          have hget : ∀ (zs : Array Value) (us : List Int), KF w (fun _ => False) (.arr n' (.int k)) us zs.toList → ∀ i ∈ List.range n', zs[i]? = some (.int k (us.getD i 0)) := fun zs us hK i hi => by
            have hi := List.mem_range.1 hi
            obtain ⟨g1, g2, g3⟩ := hK
            have hlt : i < us.length := by rw [g1]; exact hi
            have := g3 i us[i] (List.getElem?_eq_getElem hlt)
            have : (zs.toList.drop (i * 1)).take 1 = [Value.int k us[i]] := this
            rw [Nat.mul_one] at this
            have h0 : ((zs.toList.drop i).take 1)[0]? = some (.int k us[i]) := by rw [this]; rfl
            rw [List.getElem?_take, if_pos (by omega), List.getElem?_drop] at h0
            have e0 : us.getD i 0 = us[i] := by rw [List.getD_eq_getElem?_getD, List.getElem?_eq_getElem hlt]; rfl
            rw [e0]
            simpa using h0
          rw [eqItems_int (n := 9998) hk hc1 (List.range n') (fun i => ns.getD i 0) (fun i => ms.getD i 0) fun i hi => ⟨hget xs ns hX i hi, hget ys ms hY i hi⟩]
          congr 1
          have l1 : ns.length = n' := hX.1
          have l2 : ms.length = n' := hY.1
          rw [Bool.eq_iff_iff, List.all_eq_true, decide_eq_true_iff]
          constructor
          · intro hall
            apply List.ext_getElem (by omega)
            intro i hi1 hi2
            have := hall i (List.mem_range.2 (by omega))
            rw [decide_eq_true_iff, List.getD_eq_getElem?_getD, List.getD_eq_getElem?_getD, List.getElem?_eq_getElem hi1, List.getElem?_eq_getElem hi2] at this
            exact this
          · rintro rfl i _
            simp
      · cases h1
    have eg : ∀ op, (eqGuard op t p q (.agg xs) (.agg ys)).run fr.P w = .ok () w := fun op => by
      cases op <;> simp [eqGuard, hgd]
    cases op <;> simp only [] at h' <;> try cases h'
    · refine ⟨_, _, h', ?_, fun _ _ _ _ => rfl⟩
      have : binOp .eql t (.agg xs) (.agg ys) = (do pure (.bool (← Op.equal t (.agg xs) (.agg ys)))) := rfl
      simp [Sem.run_bind, eg, this, heq]
    · refine ⟨_, _, h', ?_, fun _ _ _ _ => rfl⟩
      have : binOp .neq t (.agg xs) (.agg ys) = (do pure (.bool (!(← Op.equal t (.agg xs) (.agg ys))))) := rfl
      simp [Sem.run_bind, eg, this, heq]
  · rename_i b b'
    have hx : u = .bool b := hx
    have hy : u' = .bool b' := hy
    subst hx hy
    rcases ble_of h with ⟨hb, h'⟩ | ⟨_, h'⟩
    · have ht : fr.P.underlying t = some .bool := by
        unfold isBoolT at hb
        split at hb
        · rename_i hp
          obtain ⟨_, _, d, hd, hs⟩ := plain_of H hp
          rw [hd, hs]
        · cases hb
      have eg : ∀ op, eqGuard op t p q (.bool b) (.bool b') = pure () := fun op => eqGuard_at_bool op t p q _ b
      have he : (Op.equal t (.bool b) (.bool b')).run fr.P w = .ok (b == b') w := by
        have key : ∀ d, (Op.equalIn (d + 1) t (.bool b) (.bool b')).run fr.P w = .ok (b == b') w := fun d => by
          simp only [Op.equalIn, Sem.run_bind, run_underlying ht, Result.andThen_ok, Sem.run_pure]
        exact key 9999
      split at h'
      · refine ⟨_, _, h', ?_, fun _ _ _ _ => rfl⟩
        have : binOp .eql t (.bool b) (.bool b') = (do pure (.bool (← Op.equal t (.bool b) (.bool b')))) := rfl
        simp [eg, this, he]
      · refine ⟨_, _, h', ?_, fun _ _ _ _ => rfl⟩
        have : binOp .neq t (.bool b) (.bool b') = (do pure (.bool (!(← Op.equal t (.bool b) (.bool b'))))) := rfl
        simp [eg, this, he]
      · cases h'
    · cases h'
  · cases h
theorem goes_bin (R : RelS fr σ s a w) (H : TIs fr.P G) {op : BinOp} {t t' : TypeId} {x y : Operand} (ho : o.op = .binOp op t x y t')
    {v v' : V} (hx : ev s x = some v) (hy : ev s y = some v') (h : (binV (isBoolT G t) (feqN G t) (aeqN G t) op v v' fun c => K (.c c) s) = some r) : Goes fr o a w K r := by
  obtain ⟨c, u, hK, hr, hc⟩ := binV_spec (s := s) (σ := σ) (w := w) H h (ev_spec R hx) (ev_spec R hy) x y
  refine Goes.val (u := u) ?_ hK R (hc _ _ _ _)
  simp only [execOp, ho, Sem.run_bind] at hr ⊢
  simp only [hr, Result.andThen_ok, Sem.run_pure]
theorem goes_un (R : RelS fr σ s a w) {op : UnOp} {t : TypeId} {x : Operand} (ho : o.op = .unOp op t x)
    (h : (match (generalizing := false) evC s x with
    | some (.bool b) => match (generalizing := false) op with
      | .not => K (.c (.bool (!b))) s
      | _ => none
    | some (.int k n) => match (generalizing := false) op with
      | .neg => K (.c (.int k (k.wrap (0 - n)))) s
      | .xor => K (.c (.int k (bits .xor k (if k.signed then -1 else k.max) n))) s
      | _ => none
    | _ => none) = some r) : Goes fr o a w K r := by
  split at h
  · rename_i b hb
    have hv : a.eval x = .bool b := evC_spec R hb
    cases op <;> simp only [] at h <;> try cases h
    exact Goes.val (u := .bool (!b)) (by simp [execOp, ho, hv, Op.unary]) h R rfl
  · rename_i k n hb
    have hv : a.eval x = .int k n := evC_spec R hb
    cases op <;> simp only [] at h <;> try cases h
    · exact Goes.val (u := .int k (k.wrap (0 - n))) (by simp [execOp, ho, hv, Op.unary, Op.intArith]) h R rfl
    · exact Goes.val (u := .int k (bits .xor k (if k.signed then -1 else k.max) n)) (by simp [execOp, ho, hv, Op.unary, intBits_xor]) h R rfl
  · cases h
end
end Go.Proofs.YtkadllkeekoopaaGreat.Abs
end

section
namespace Go.Proofs.YtkadllkeekoopaaGreat.Abs
open Go.RowKit

section
variable {ρ : Type} {G : Ctx} {fr : Fr} {σ : Nat → Value} {s : St} {a : Act} {w : World} {o : Oper} {K : V → St → Option ρ} {r : ρ}

theorem one_cells {u : Value} (h : u.oneCell' = true) : u.cells = #[u] := by
  cases u <;> first | rfl | cases h
theorem cellsOf_spec (R : RelS fr σ s a w) {v : V} {u : Value} {cs : List C} (h : cellsOf v = some cs) (hv : VR fr σ s.T w v u) : CRs fr σ s.T w cs u.cells.toList := by
  cases v with
  | c x =>
    cases h
    rw [one_cells (CR.one R hv)]
    exact ⟨hv, trivial⟩
  | agg cs =>
    cases h
    obtain ⟨arr, rfl, hc⟩ := hv
    exact hc
  | _ => cases h
theorem CRs.one (R : RelS fr σ s a w) : ∀ {cs : List C} {vs : List Value}, CRs fr σ s.T w cs vs → ∀ u ∈ vs, u.oneCell' = true
  | [], [], _, _, h => by cases h
  | [], _ :: _, h, _, _ => h.elim
  | _ :: _, [], h, _, _ => h.elim
  | _ :: _, _ :: _, h, u, hu => by
    cases hu with
    | head => exact CR.one R h.1
    | tail _ hu => exact CRs.one R h.2 u hu
/-- A value of cells. -/
noncomputable def ofCells (g : Bool) (vs : List Value) : Value := bif g then .agg vs.toArray else vs.getD 0 Go.undef
theorem mkV_spec {T : Tab} {g : Bool} {v : V} {cs : List C} {vs : List Value} (h : mkV g cs = some v) (hv : CRs fr σ T w cs vs) : VR fr σ T w v (ofCells g vs) ∧ (g = false → ∃ u, vs = [u]) := by
  unfold mkV at h
  cases g with
  | true =>
    cases h
    exact ⟨⟨vs.toArray, rfl, hv⟩, fun h => by cases h⟩
  | false =>
    simp only [cond_false] at h
    split at h
    · cases h
      cases vs with
      | nil => exact hv.elim
      | cons u vs =>
        cases vs with
        | nil => exact ⟨hv.1, fun _ => ⟨u, rfl⟩⟩
        | cons _ _ => exact hv.2.elim
    · cases h
theorem add_lit' (ad : Addr) (h : ad.spot = none) (j : Nat) : ad.add j = ⟨ad.block, ad.off + j, none⟩ := by
  obtain ⟨b, o, s⟩ := ad
  cases h
  exact Addr.add_lit b o j
theorem add_add (ad : Addr) (x y : Nat) : (ad.add x).add y = ad.add (x + y) := by
  unfold Addr.add
  by_cases hx : x = 0
  · simp [hx]
  · by_cases hy : y = 0
    · simp [hy]
    · simp [hx, hy, Nat.add_assoc]

/-- Cells at an address. -/
def Lies (w : World) (u : Value) (vs : List Value) : Prop := ∃ ad, u = .pointer (some ad) ∧ ad.spot = none ∧ ∀ j x, vs[j]? = some x → w.cell? ⟨ad.block, ad.off + j, none⟩ = some x
theorem row_cells {T : Tab} {id : Nat} {e : TypeId} {al : Bool} {t : Ty} {xs : List t.den} (h : OR fr σ T w id (.row e al t xs)) {a0 : Addr} (ha : addr (σ id) = some a0) {i : Nat} (hi : i < xs.length) :
    ∃ vs, vs.length = t.size ∧ KF w (Foot fr σ T w al) t (xs.getD i t.zero) vs ∧ ∀ j x, vs[j]? = some x → w.cell? ⟨a0.block, a0.off + (i * t.size + j), none⟩ = some x := by
  obtain ⟨inner, ho, _, hx⟩ := h
  have hlen := ho.1
  have hk := hx i (xs.getD i t.zero) (by rw [List.getElem?_eq_getElem hi]; simp [List.getD, hi])
  refine ⟨_, KF.len _ _ _ hk, hk, fun j x hj => ?_⟩
  rcases ho.2 with ⟨hv, _⟩ | ⟨g, cap, cur, hv, _⟩
  · rw [hv] at ha; cases ha
  · have hw := ho
    rw [hv] at ha hw
    simp [addr] at ha
    subst ha
    rw [List.getElem?_take] at hj
    split at hj
    · rename_i hjs
      rw [List.getElem?_drop] at hj
      have : (i + 1) * t.size ≤ xs.length * t.size := Nat.mul_le_mul_right _ hi
      rw [Nat.add_mul] at this
      have hc := hw.cellAt (i * t.size + j) (by omega)
      rw [hj] at hc
      simpa using hc
    · cases hj
theorem cellsAt_spec (R : RelS fr σ s a w) {v : V} {u : Value} {n : Nat} {cs : List C} (h : cellsAt s.T v n = some cs) (hv : VR fr σ s.T w v u) : cs.length = n ∧ ∃ vs, CRs fr σ s.T w cs vs ∧ Lies w u vs := by
  cases v with
  | ra ds =>
    simp only [cellsAt] at h
    rcases ble_of h with ⟨hn, h'⟩ | ⟨_, h'⟩
    · cases h'
      have hn := Nat.le_of_ble_eq_true hn
      obtain ⟨ad, al, rfl, hs, hf, hc⟩ := hv
      obtain ⟨vs, hvs, hp⟩ := CRs.of_pts (p := fun j u => w.cell? ⟨ad.block, ad.off + j, none⟩ = some u) (cs := ds.take n) 0 (fun j c hj => by
        rw [List.getElem?_take] at hj
        split at hj
        · obtain ⟨u, hu, hk⟩ := hc j c hj
          exact ⟨u, by rw [Nat.zero_add]; exact hu, hk⟩
        · cases hj)
      refine ⟨by rw [List.length_take]; omega, vs, hvs, ad, rfl, hs, fun j x hj => ?_⟩
      have := hp j x hj
      rwa [Nat.zero_add] at this
    · cases h'
  | pt id off =>
    simp only [cellsAt] at h
    split at h
    · rename_i ty ds hT
      rcases ble_of h with ⟨hn, h'⟩ | ⟨_, h'⟩
      · cases h'
        have hn := Nat.le_of_ble_eq_true hn
        obtain ⟨o, a0, ho, ha, hs, rfl⟩ := hv
        obtain ⟨g, arr, hσ, _, hh, hc⟩ := R.objs id _ hT
        rw [hσ] at ha
        simp [addr] at ha
        subst ha
        refine ⟨by rw [List.length_take, List.length_drop]; omega, _, CRs.take n (CRs.drop off hc), ⟨g, 0 + off, none⟩, rfl, rfl, fun j x hj => ?_⟩
        rw [List.getElem?_take] at hj
        split at hj
        · rw [List.getElem?_drop] at hj
          rw [cell_of_row w g _ arr ty (0, 0) hh]
          simpa using hj
        · cases hj
      · cases h'
    · cases h
  | oa id i off =>
    simp only [cellsAt] at h
    obtain ⟨o, a0, ho, hi, ha, hs, rfl⟩ := hv
    rw [ho] at h
    cases o with
    | row e al t xs =>
      simp only [] at h
      rcases ble_of h with ⟨hn, h'⟩ | ⟨_, h'⟩
      · cases h'
        have hn := Nat.le_of_ble_eq_true hn
        obtain ⟨vs, hl, hk, hc⟩ := row_cells (R.objs id _ ho) ha hi
        have hcr := CRs.take n (CRs.drop off (CRs.flat t _ _ hk))
        have hl2 := CRs.len (CRs.flat (al := al) t _ _ hk)
        refine ⟨by rw [List.length_take, List.length_drop]; omega, _, hcr, _, rfl, rfl, fun j x hj => ?_⟩
        rw [List.getElem?_take] at hj
        split at hj
        · rw [List.getElem?_drop] at hj
          have := hc (off + j) x hj
          show w.cell? ⟨a0.block, a0.off + (i * t.size + off) + j, none⟩ = some x
          rw [show a0.off + (i * t.size + off) + j = a0.off + (i * t.size + (off + j)) by omega]
          exact this
        · cases hj
      · cases h'
    | win al t xs => exact (R.objs id _ ho).elim
    | iter _ _ => cases h
    | box ty cs => cases h
    | arr ty m t xs =>
      simp only [] at h
      rcases ble_of h with ⟨hn, h'⟩ | ⟨_, h'⟩
      · cases h'
        have hn := Nat.le_of_ble_eq_true hn
        obtain ⟨g, arr, hσ, _, hh, hc⟩ := R.objs id _ ho
        rw [hσ] at ha
        simp [addr] at ha
        subst ha
        have hi : i < xs.length := by rw [hc.1]; exact hi
        have hk := hc.2.2 i (xs.getD i t.zero) (by rw [List.getElem?_eq_getElem hi]; simp [List.getD, hi])
        have hk : KF w (Foot fr σ s.T w false) t _ _ := KF.imp (fun b hb => hb.elim) t _ _ hk
        have hcr := CRs.take n (CRs.drop off (CRs.flat t _ _ hk))
        have hl2 := CRs.len (CRs.flat (al := false) t _ _ hk)
        have hl := KF.len t _ _ hk
        refine ⟨by rw [List.length_take, List.length_drop]; omega, _, hcr, _, rfl, rfl, fun j x hj => ?_⟩
        rw [List.getElem?_take] at hj
        split at hj
        · rw [List.getElem?_drop] at hj
          rw [List.getElem?_take] at hj
          split at hj
          · rw [List.getElem?_drop] at hj
            rw [cell_of_row w g _ arr ty (0, 0) hh]
            show arr[0 + (i * t.size + off) + j]? = some x
            rw [show 0 + (i * t.size + off) + j = i * t.size + (off + j) by omega]
            simpa using hj
          · cases hj
        · cases hj
      · cases h'
  | _ => cases h

theorem run_loadVar_at {P : Program} {t : TypeId} {i : TI} {τ : Ty} (H : TyOk P t i τ) {ad : Addr} (hs : ad.spot = none) {vs : List Value} (hl : vs.length = τ.size) (hc : ∀ j x, vs[j]? = some x → w.cell? ⟨ad.block, ad.off + j, none⟩ = some x) (h1 : i.agg = false → ∃ u, vs = [u]) :
    (loadVar t ad).run P w = .ok (ofCells i.agg vs) w := by
  obtain ⟨d, hd, hg⟩ := H.agg
  obtain ⟨f, hf, hz⟩ := H.info
  have hagg : (isAgg t).run P w = .ok i.agg w := by
    unfold isAgg
    simp only [Sem.run_bind, run_underlying hd, Result.andThen_ok]
    rw [← hg]
    cases d <;> rfl
  unfold loadVar
  simp only [Sem.run_bind, hagg, Result.andThen_ok]
  cases hi : i.agg with
  | true =>
    have hl' := run_loadCells_list (P := P) w ad vs (fun j x hj => by rw [add_lit' ad hs]; exact hc j x hj)
    simp [sizeOf, typeInfo, hf, hz, ← hl, hl', ofCells]
  | false =>
    obtain ⟨u, rfl⟩ := h1 hi
    have := hc 0 u rfl
    have e : (⟨ad.block, ad.off + 0, none⟩ : Addr) = ad := by
      obtain ⟨b, o, s⟩ := ad
      cases hs
      rfl
    rw [e] at this
    simp [this, ofCells]

theorem goes_load (R : RelS fr σ s a w) (H : TIs fr.P G) {t : TypeId} {x : Operand} (ho : o.op = .load t x) {τ : Ty} (ht : (tiOf G t).ty = some τ) {v : V} (hv : ev s x = some v) {cs : List C} (hc : cellsAt s.T v τ.size = some cs) {v' : V} (hm : mkV (tiOf G t).agg cs = some v') (hK : K v' s = some r) : Goes fr o a w K r := by
  obtain ⟨hl, vs, hcs, ad, hu, hs, hcell⟩ := cellsAt_spec R hc (ev_spec R hv)
  obtain ⟨hv', h1⟩ := mkV_spec hm hcs
  refine Goes.val (u := ofCells (tiOf G t).agg vs) ?_ hK R hv'
  have := run_loadVar_at (H t τ ht) hs (by rw [CRs.len hcs, hl]) hcell h1
  simp [execOp, ho, Instr.loadAt, hu, Instr.sureAddr, this]
theorem goes_load_arr (R : RelS fr σ s a w) (H : TIs fr.P G) {t : TypeId} {x : Operand} (ho : o.op = .load t x) {n : Nat} {u : Ty} (ht : (tiOf G t).ty = some (.arr n u)) (hg : (tiOf G t).agg = true) {id : Nat} (hv : ev s x = some (.pt id 0)) {tt : TypeId} {xs : List u.den} (hT : get s.T id = some (.arr tt n u xs)) (hK : K (.av n u xs) s = some r) : Goes fr o a w K r := by
  obtain ⟨o', a0, ho', ha, hs, hu⟩ := ev_spec R hv
  obtain ⟨g, arr, hσ, _, hh, hc⟩ := R.objs id _ hT
  rw [hσ] at ha
  simp [addr] at ha
  subst ha
  refine Goes.val (u := .agg arr) ?_ hK R ⟨arr, rfl, hc⟩
  have := run_loadVar_at (w := w) (H t _ ht) (ad := ⟨g, 0 + 0, none⟩) rfl (vs := arr.toList) hc.2.1 (fun j x hj => by
    rw [cell_of_row w g _ arr tt (0, 0) hh]
    simpa using hj) (fun h => by rw [hg] at h; cases h)
  simp [execOp, ho, Instr.loadAt, hu, Instr.sureAddr] at this ⊢
  simp [this, ofCells, hg]

/-! ## Addresses -/
theorem goes_nilCheck (R : RelS fr σ s a w) {x : Operand} (ho : o.op = .nilCheck x) {v : V} (hv : ev s x = some v) (hp : (∃ id off, v = .pt id off) ∨ (∃ id i off, v = .oa id i off)) (hK : K v s = some r) : Goes fr o a w K r := by
  have h := ev_spec R hv
  have : ∃ ad, a.eval x = .pointer (some ad) := by
    rcases hp with ⟨id, off, rfl⟩ | ⟨id, i, off, rfl⟩
    · obtain ⟨_, a0, _, _, _, hu⟩ := h; exact ⟨_, hu⟩
    · obtain ⟨_, a0, _, _, _, _, hu⟩ := h; exact ⟨_, hu⟩
  obtain ⟨ad, had⟩ := this
  exact Goes.val (u := a.eval x) (by simp [execOp, ho, had]) hK R h
theorem goes_extract (R : RelS fr σ s a w) {x : Operand} {i : Nat} (ho : o.op = .extract x i) {vs : List (Bool × List C)} (hv : ev s x = some (.tup vs)) {g : Bool} {cs : List C} (hi : vs[i]? = some (g, cs)) {v : V} (hm : mkV g cs = some v) (hK : K v s = some r) : Goes fr o a w K r := by
  obtain ⟨arr, hu, hp⟩ := ev_spec R hv
  have key : ∀ {vs : List (Bool × List C)} {us : List Value} {i : Nat}, PRs fr σ s.T w vs us → vs[i]? = some (g, cs) → ∃ u, us[i]? = some u ∧ PR fr σ s.T w g cs u := by
    intro vs
    induction vs with
    | nil => intro us i _ h; simp at h
    | cons p vs ih =>
      intro us i h hi
      obtain ⟨g', cs'⟩ := p
      cases us with
      | nil => exact h.elim
      | cons u us =>
        cases i with
        | zero =>
          simp at hi
          obtain ⟨rfl, rfl⟩ := hi
          exact ⟨u, rfl, h.1⟩
        | succ i => simpa using ih h.2 (i := i) (by simpa using hi)
  obtain ⟨u, hu2, hpr⟩ := key hp hi
  refine Goes.val (u := u) ?_ hK R ?_
  · have hu3 : arr[i]? = some u := by simpa using hu2
    simp [execOp, ho, hu, Instr.extract, hu3]
  · cases g with
    | true => cases hm; exact hpr
    | false =>
      obtain ⟨c, rfl, hc⟩ := hpr
      cases hm
      exact hc
theorem goes_fieldAddr (R : RelS fr σ s a w) (H : TIs fr.P G) {t : TypeId} {x : Operand} {f : Nat} (ho : o.op = .fieldAddr t x f) {τ : Ty} (ht : (tiOf G t).ty = some τ) {off n : Nat} {g : Bool} (hf : (tiOf G t).fields[f]? = some (off, n, g))
    (h : (match ev s x with
      | some (.pt id off') => K (.pt id (off' + off)) s
      | some (.oa id i off') => K (.oa id i (off' + off)) s
      | some (.ra cs) => K (.ra (cs.drop off)) s
      | _ => none) = some r) : Goes fr o a w K r := by
  obtain ⟨fs, fd, hd, hfd, hok, _⟩ := field_of H hf ht
  obtain ⟨j, d, hj, _, ho1, hn, hpos, _⟩ := hok.ex
  have run : ∀ ad : Addr, ad.spot = none → (Instr.fieldAt t (.pointer (some ad)) f).run fr.P w = .ok (.pointer (some ⟨ad.block, ad.off + off, none⟩)) w := fun ad hs => by
    have hne : ¬ j.size = 0 := by omega
    simp only [] at ho1
    simp [Instr.fieldAt, run_underlying hd, hfd, Instr.sureAddr, fieldPlace, sizeOf, typeInfo, hj, hne, ho1, add_lit' ad hs]
  split at h
  · rename_i id off' hv
    obtain ⟨o1, a0, h1, h2, h3, hu⟩ := ev_spec R hv
    refine Goes.val (u := .pointer (some ⟨a0.block, a0.off + off' + off, none⟩)) (by simp [execOp, ho, hu, run ⟨a0.block, a0.off + off', none⟩ rfl]) h R ⟨o1, a0, h1, h2, h3, ?_⟩
    rw [Nat.add_assoc]
  · rename_i id i off' hv
    obtain ⟨o1, a0, h1, h1', h2, h3, hu⟩ := ev_spec R hv
    refine Goes.val (u := .pointer (some ⟨a0.block, a0.off + (i * osize o1 + off') + off, none⟩)) (by simp [execOp, ho, hu, run ⟨a0.block, a0.off + (i * osize o1 + off'), none⟩ rfl]) h R ⟨o1, a0, h1, h1', h2, h3, ?_⟩
    rw [Nat.add_assoc, Nat.add_assoc]
  · rename_i cs hv
    obtain ⟨ad, al, hu, hs, hfoot, hc⟩ := ev_spec R hv
    refine Goes.val (u := .pointer (some ⟨ad.block, ad.off + off, none⟩)) (by simp [execOp, ho, hu, run ad hs]) h R ⟨_, al, rfl, rfl, ?_, fun j c hj => ?_⟩
    · rcases hfoot with rfl | hfoot
      · exact .inl (by simp)
      · exact .inr hfoot
    · rw [List.getElem?_drop] at hj
      obtain ⟨u, hu', hk⟩ := hc _ c hj
      refine ⟨u, ?_, hk⟩
      show w.cell? ⟨ad.block, ad.off + off + j, none⟩ = some u
      rw [Nat.add_assoc]
      exact hu'
  · cases h
theorem goes_field (R : RelS fr σ s a w) (H : TIs fr.P G) {t : TypeId} {x : Operand} {f : Nat} (ho : o.op = .field t x f) {τ : Ty} (ht : (tiOf G t).ty = some τ) {off n : Nat} {g : Bool} (hf : (tiOf G t).fields[f]? = some (off, n, g))
    {cs : List C} (hv : ev s x = some (.agg cs)) {v : V} (hm : mkV g ((cs.drop off).take n) = some v) (hK : K v s = some r) : Goes fr o a w K r := by
  obtain ⟨fs, fd, hd, hfd, hok, _⟩ := field_of H hf ht
  obtain ⟨j, d, hj, hu2, ho1, hn, hpos, hg, _⟩ := hok.ex
  simp only [] at ho1 hn hg hpos
  obtain ⟨arr, hu, hc⟩ := ev_spec R hv
  obtain ⟨hV, h1⟩ := mkV_spec hm (CRs.take n (CRs.drop off hc))
  refine Goes.val (u := ofCells g ((arr.toList.drop off).take n)) ?_ hK R hV
  have hagg : (isAgg fd.type).run fr.P w = .ok g w := by
    unfold isAgg
    simp only [Sem.run_bind, run_underlying hu2, Result.andThen_ok]
    rw [← hg]
    cases d <;> rfl
  have hpart : (part fd.type arr off).run fr.P w = .ok (ofCells g ((arr.toList.drop off).take n)) w := by
    unfold part
    simp only [Sem.run_bind, hagg, Result.andThen_ok]
    cases hgg : g with
    | true =>
      have e : arr.extract off (off + n) = ((arr.toList.drop off).take n).toArray := by
        apply Array.ext'
        simp
      simp [sizeOf, typeInfo, hj, hn, ofCells, e]
    | false =>
      obtain ⟨u, hu'⟩ := h1 hgg
      have : arr[off]? = some u := by
        have h0 := congrArg (fun l => l[0]?) hu'
        simp only [List.getElem?_take, List.getElem?_drop] at h0
        rw [if_pos (by omega)] at h0
        simpa using h0
      simp [this, ofCells, hu']
  simp [execOp, ho, hu, Instr.field, run_underlying hd, hfd, asAgg, ho1, hpart]
end
end Go.Proofs.YtkadllkeekoopaaGreat.Abs
end

section
namespace Go.Proofs.YtkadllkeekoopaaGreat.Abs
open Go.RowKit

section
variable {ρ : Type} {G : Ctx} {fr : Fr} {σ : Nat → Value} {s : St} {a : Act} {w : World} {o : Oper} {K : V → St → Option ρ} {r : ρ}

theorem isZ_of {z : Option Nat} {n : Nat} (h : isZ z n = true) : z = some n := by
  cases z with
  | none => cases h
  | some m => exact congrArg some (Nat.eq_of_beq_eq_true h)
theorem lenO_of {T : Tab} {z : Option Nat} {id : Nat} {n : Int} (h : lenO T z id = some n) : ∃ e al t xs, get T id = some (.row e al t xs) ∧ z = some t.size ∧ n = (xs.length : Int) := by
  unfold lenO at h
  split at h
  · rename_i e al t xs hT
    rcases ble_of h with ⟨hz, h'⟩ | ⟨_, h'⟩
    · cases h'
      exact ⟨e, al, t, xs, hT, isZ_of hz, rfl⟩
    · cases h'
  · cases h
/-- A row's own value. -/
theorem row_value {T : Tab} {id : Nat} {e : TypeId} {al : Bool} {t : Ty} {xs : List t.den} (h : OR fr σ T w id (.row e al t xs)) : (xs = [] ∧ σ id = .slice none 0 0) ∨ ∃ g cap, σ id = .slice (some ⟨g, 0, none⟩) xs.length cap ∧ xs.length ≤ cap := by
  obtain ⟨inner, ho, _⟩ := h
  rcases ho.2 with ⟨hv, hn⟩ | ⟨g, cap, cur, hv, _, _, hnc, _⟩
  · exact .inl ⟨List.eq_nil_of_length_eq_zero hn, hv⟩
  · exact .inr ⟨g, cap, hv, hnc⟩

theorem run_indexAt_sl {P : Program} {t e : TypeId} {j : TypeInfo} (hu : P.underlying t = some (.slice e)) (hj : P.info? e = some j) (A : Addr) (n c : Nat) (k : IntKind) {i : Int} (h : 0 ≤ i ∧ i < n) (w : World) :
    (Instr.indexAt t (.slice (some A) n c) (.int k i)).run P w = .ok (.pointer (some (A.add (i.toNat * j.size)))) w := by
  simp [Instr.indexAt, asIntOf, run_underlying hu, sizeOf, typeInfo, hj, h]
theorem run_indexAt_ar {P : Program} {t e : TypeId} {j : TypeInfo} {n : Nat} (hu : P.underlying t = some (.array n e)) (hj : P.info? e = some j) (A : Addr) (k : IntKind) {i : Int} (h : 0 ≤ i ∧ i < n) (w : World) :
    (Instr.indexAt t (.pointer (some A)) (.int k i)).run P w = .ok (.pointer (some (A.add (i.toNat * j.size)))) w := by
  simp [Instr.indexAt, Instr.sureAddr, asIntOf, run_underlying hu, sizeOf, typeInfo, hj, h]

theorem goes_indexAddr (R : RelS fr σ s a w) (H : TIs fr.P G) {t : TypeId} {x y : Operand} (ho : o.op = .indexAddr t x y) {v : V} (hv : ev s x = some v) {i : Int} (hi : evI s y = some i)
    (h : (idxAddr s.T (match (generalizing := false) v with | .pt _ _ => eszA G t | _ => eszS G t) v i fun a => K a s) = some r) (hchk : arrOk G s t v = true) : Goes fr o a w K r := by
  obtain ⟨k, hk⟩ := evI_spec R hi
  have hV := ev_spec R hv
  unfold idxAddr at h
  split at h
  · rename_i al τ xs
    rcases ble_of h with ⟨_, h'⟩ | ⟨hz, h'⟩
    · cases h'
    · split at h'
      case isFalse => cases h'
      rename_i hb
      have hz : eszS G t = some τ.size := isZ_of (by simpa using hz)
      obtain ⟨e, j, hu, hj, hjs⟩ := eszS_of H hz
      obtain ⟨A, c, hx, hlc, hrow⟩ := hV
      simp at hx
      rcases hrow with hnil | ⟨ad, rfl, hs, hf, hcell⟩
      · subst hnil; simp at hb; omega
      · have hlt : i.toNat < xs.length := by omega
        refine Goes.val (u := .pointer (some (ad.add (i.toNat * j.size)))) (by simp [execOp, ho, hx, hk, run_indexAt_sl hu hj ad xs.length c k hb]) h' R ?_
        obtain ⟨cs, hl, hK', hc⟩ := hcell i.toNat (xs.getD i.toNat τ.zero) (by rw [List.getElem?_eq_getElem hlt]; simp [List.getD, hlt])
        refine ⟨ad.add (i.toNat * j.size), al, rfl, by rw [add_lit' ad hs], .inr (by rw [add_lit' ad hs]; exact hf), fun q c hq => ?_⟩
        obtain ⟨u, hu1, hu2⟩ := CRs.at (CRs.flat τ _ _ hK') hq
        refine ⟨u, ?_, hu2⟩
        rw [add_lit' ad hs, hjs]
        show w.cell? ⟨ad.block, ad.off + i.toNat * τ.size + q, none⟩ = some u
        rw [Nat.add_assoc]
        exact hc q u hu1
  · rename_i id
    split at h
    case h_2 => cases h
    rename_i n hn
    obtain ⟨e0, al, τ, xs, hT, hz, rfl⟩ := lenO_of hn
    split at h
    case isFalse => cases h
    rename_i hb
    obtain ⟨e, j, hu, hj, hjs⟩ := eszS_of H hz
    obtain ⟨hσ, _⟩ := hV
    have hlt : i.toNat < xs.length := by omega
    rcases row_value (R.objs id _ hT) with ⟨rfl, _⟩ | ⟨g, cap, hval, hcap⟩
    · simp at hlt
    · rw [hval] at hσ
      refine Goes.val (u := .pointer (some ((⟨g, 0, none⟩ : Addr).add (i.toNat * j.size)))) (by simp [execOp, ho, hσ, hk, run_indexAt_sl hu hj ⟨g, 0, none⟩ xs.length cap k hb]) h R ?_
      refine ⟨_, ⟨g, 0, none⟩, hT, hlt, by rw [hval]; rfl, rfl, ?_⟩
      rw [Addr.add_lit, hjs]
      rfl
  · rename_i id lo n
    split at h
    case h_2 => cases h
    rename_i m hn
    obtain ⟨e0, al, τ, xs, hT, hz, rfl⟩ := lenO_of hn
    split at h
    case isFalse => cases h
    rename_i hb
    obtain ⟨e, j, hu, hj, hjs⟩ := eszS_of H hz
    obtain ⟨o1, A, n1, cap, A', c', ho1, hσ, h1, hx, h3, h4, h5⟩ := hV
    rw [hT] at ho1
    cases ho1
    obtain ⟨ad, rfl, rfl⟩ := h5 (by omega)
    rcases row_value (R.objs id _ hT) with ⟨_, hval⟩ | ⟨g, cap', hval, hcap⟩
    · rw [hσ] at hval; cases hval
    · rw [hσ] at hval
      cases hval
      refine Goes.val (u := .pointer (some (((⟨g, 0, none⟩ : Addr).add (lo * τ.size)).add (i.toNat * j.size)))) (by simp only [execOp, ho, hx, hk]; simp [run_indexAt_sl hu hj _ n c' k hb, osize]) h R ?_
      refine ⟨_, ⟨g, 0, none⟩, hT, show lo + i.toNat < xs.length by omega, by rw [hσ]; rfl, rfl, ?_⟩
      rw [add_add, Addr.add_lit, hjs, ← Nat.add_mul]
      rfl
  · rename_i id
    split at h
    case h_2 => cases h
    rename_i tt n τ xs hT
    rcases ble_of h with ⟨_, h'⟩ | ⟨hz, h'⟩
    · cases h'
    · split at h'
      case isFalse => cases h'
      rename_i hb
      have hz : eszA G t = some τ.size := isZ_of (by simpa using hz)
      obtain ⟨n', e, j, hu, hj, hjs, u', hE⟩ := eszA_of H hz
      simp only [arrOk, hT, hE] at hchk
      have hchk := Nat.eq_of_beq_eq_true hchk
      subst hchk
      obtain ⟨o1, a0, ho1, ha, hs, hx⟩ := hV
      rw [hT] at ho1
      cases ho1
      refine Goes.val (u := .pointer (some ((⟨a0.block, a0.off + 0, none⟩ : Addr).add (i.toNat * j.size)))) (by simp only [execOp, ho, hx, hk]; simp only [Sem.run_bind, run_indexAt_ar hu hj _ k hb, Result.andThen_ok, Sem.run_pure]) h' R ?_
      refine ⟨_, a0, hT, show i.toNat < n by omega, ha, hs, ?_⟩
      rw [Addr.add_lit, hjs]
      simp [osize]
  · cases h

/-! ## Cuts -/
def Bnd (x : Option Value) (n d : Nat) : Prop := (x = none ∧ n = d) ∨ ∃ k, x = some (.int k (n : Int))
theorem run_slice_gen {P : Program} {t e : TypeId} {j : TypeInfo} (hu : P.underlying t = some (.slice e)) (hj : P.info? e = some j) (A : Option Addr) (len cap l h : Nat) (lo hi : Option Value) (h1 : Bnd lo l 0) (h2 : Bnd hi h len) (hlh : l ≤ h) (hc : h ≤ cap) (w : World) :
    (Instr.sliceAt t (.slice A len cap) lo hi none).run P w = .ok (.slice (if cap = l then A else A.map (·.add (l * j.size))) (h - l) (cap - l)) w := by
  have b1 : ∀ k (y : Nat) (code : BoundsCode), l ≤ y → (Instr.sliceBound (.int k (l : Int)) y code).run P w = .ok l w := fun k y code hy => by
    have := run_sliceBound (P := P) w k (l : Int) y code (by omega) (by omega)
    simpa using this
  have b2 : ∀ k (y : Nat) (code : BoundsCode), h ≤ y → (Instr.sliceBound (.int k (h : Int)) y code).run P w = .ok h w := fun k y code hy => by
    have := run_sliceBound (P := P) w k (h : Int) y code (by omega) (by omega)
    simpa using this
  rcases h1 with ⟨rfl, rfl⟩ | ⟨k1, rfl⟩ <;> rcases h2 with ⟨rfl, rfl⟩ | ⟨k2, rfl⟩ <;>
    simp [Instr.sliceAt, Instr.slice, Instr.sliceBounds, run_underlying hu, sizeOf, typeInfo, hj, b1, b2, hlh, hc]
theorem run_string_gen {P : Program} {t : TypeId} (hu : P.underlying t = some .string) (b : ByteArray) (l h : Nat) (lo hi : Option Value) (h1 : Bnd lo l 0) (h2 : Bnd hi h b.size) (hlh : l ≤ h) (hc : h ≤ b.size) (w : World) :
    (Instr.sliceAt t (.string b) lo hi none).run P w = .ok (.string (b.extract l h)) w := by
  have b1 : ∀ k (y : Nat) (code : BoundsCode), l ≤ y → (Instr.sliceBound (.int k (l : Int)) y code).run P w = .ok l w := fun k y code hy => by
    have := run_sliceBound (P := P) w k (l : Int) y code (by omega) (by omega)
    simpa using this
  have b2 : ∀ k (y : Nat) (code : BoundsCode), h ≤ y → (Instr.sliceBound (.int k (h : Int)) y code).run P w = .ok h w := fun k y code hy => by
    have := run_sliceBound (P := P) w k (h : Int) y code (by omega) (by omega)
    simpa using this
  rcases h1 with ⟨rfl, rfl⟩ | ⟨k1, rfl⟩ <;> rcases h2 with ⟨rfl, rfl⟩ | ⟨k2, rfl⟩ <;>
    simp [Instr.sliceAt, Instr.slice, Instr.sliceBounds, run_underlying hu, b1, b2, hlh, hc]

theorem extract_list (b : ByteArray) (l h : Nat) : (b.extract l h).data.toList = (b.data.toList.take h).drop l := by
  rw [ByteArray.data_extract, Array.toList_extract, List.extract_eq_take_drop, List.drop_take]

/-- The bounds of a cut, as they are asked for. -/
def Cut (lo hi : Option Int) (n l h : Nat) : Prop := (lo = none ∧ l = 0 ∨ lo = some (l : Int)) ∧ (hi = none ∧ h = n ∨ hi = some (h : Int)) ∧ l ≤ h ∧ h ≤ n
theorem Cut.bnd {lo hi : Option Int} {n l h : Nat} (hc : Cut lo hi n l h) (R : RelS fr σ s a w) {x y : Option Operand} (hx : evO s x = some lo) (hy : evO s y = some hi) : Bnd (x.map a.eval) l 0 ∧ Bnd (y.map a.eval) h n := by
  obtain ⟨h1, h2, _⟩ := hc
  constructor
  · rcases evO_spec R hx with ⟨rfl, rfl⟩ | ⟨k, m, z, rfl, rfl, hz⟩
    · rcases h1 with ⟨_, rfl⟩ | h1
      · exact .inl ⟨rfl, rfl⟩
      · cases h1
    · rcases h1 with ⟨h1, _⟩ | h1
      · cases h1
      · cases h1
        exact .inr ⟨k, by rw [Option.map_some, hz]⟩
  · rcases evO_spec R hy with ⟨rfl, rfl⟩ | ⟨k, m, z, rfl, rfl, hz⟩
    · rcases h2 with ⟨_, rfl⟩ | h2
      · exact .inl ⟨rfl, rfl⟩
      · cases h2
    · rcases h2 with ⟨h2, _⟩ | h2
      · cases h2
      · cases h2
        exact .inr ⟨k, by rw [Option.map_some, hz]⟩
/-- What a cut gives, of every kind of thing that is cut. -/
def CutRes : C → Tab → Nat → Nat → C → Prop
  | .sl al t xs, _, l, h, c => c = .sl al t ((xs.take h).drop l)
  | .str xs, _, l, h, c => c = .str ((xs.take h).drop l)
  | .own id, T, l, h, c => c = .view id l (h - l) ∨ (c = .own id ∧ l = 0 ∧ ∃ e al t xs, get T id = some (.row e al t xs) ∧ h = xs.length)
  | .view id a _, _, l, h, c => c = .view id (a + l) (h - l)
  | .nil, _, l, h, c => c = .nil ∧ l = 0 ∧ h = 0
  | _, _, _, _, _ => False
def clen (T : Tab) : C → Nat → Prop
  | .sl _ _ xs, n => n = xs.length
  | .str xs, n => n = xs.length
  | .own id, n => ∃ e al t xs, get T id = some (.row e al t xs) ∧ n = xs.length
  | .view _ _ m, n => n = m
  | .nil, n => n = 0
  | _, _ => False
def csz (T : Tab) (z : Option Nat) : C → Prop
  | .sl _ t _ => z = some t.size
  | .str _ => True
  | .own id => ∃ e al t xs, get T id = some (.row e al t xs) ∧ z = some t.size
  | .view id _ _ => ∃ e al t xs, get T id = some (.row e al t xs) ∧ z = some t.size
  | .nil => ∃ n, z = some n
  | _ => False
theorem cut_of {α : Type} {xs : List α} {lo hi : Option Int} {Z : List α → Option ρ}
    (h : (match lo, hi with
    | none, none => Z xs
    | some l, none => if 0 ≤ l ∧ l ≤ (xs.length : Int) then Z (xs.drop l.toNat) else none
    | none, some h => if 0 ≤ h ∧ h ≤ (xs.length : Int) then Z (xs.take h.toNat) else none
    | some l, some h => if 0 ≤ l ∧ l ≤ h ∧ h ≤ (xs.length : Int) then Z ((xs.take h.toNat).drop l.toNat) else none) = some r) : ∃ l h, Cut lo hi xs.length l h ∧ Z ((xs.take h).drop l) = some r := by
  split at h
  · exact ⟨0, xs.length, ⟨.inl ⟨rfl, rfl⟩, .inl ⟨rfl, rfl⟩, Nat.zero_le _, Nat.le_refl _⟩, by simpa using h⟩
  · split at h
    · rename_i l hb
      exact ⟨l.toNat, xs.length, ⟨.inr (by rw [Int.toNat_of_nonneg hb.1]), .inl ⟨rfl, rfl⟩, by omega, Nat.le_refl _⟩, by simpa using h⟩
    · cases h
  · split at h
    · rename_i l hb
      exact ⟨0, l.toNat, ⟨.inl ⟨rfl, rfl⟩, .inr (by rw [Int.toNat_of_nonneg hb.1]), by omega, by omega⟩, by simpa using h⟩
    · cases h
  · split at h
    · rename_i l l' hb
      exact ⟨l.toNat, l'.toNat, ⟨.inr (by rw [Int.toNat_of_nonneg hb.1]), .inr (by rw [Int.toNat_of_nonneg (by omega)]), by omega, by omega⟩, h⟩
    · cases h
theorem cutV_spec {T : Tab} {z : Option Nat} {x : V} {lo hi : Option Int} {K : C → Option ρ} (h : cutV T z x lo hi K = some r) : ∃ c n l h d, x = .c c ∧ clen T c n ∧ csz T z c ∧ Cut lo hi n l h ∧ CutRes c T l h d ∧ K d = some r := by
  unfold cutV at h
  split at h
  · rename_i al t xs
    rcases ble_of h with ⟨_, h'⟩ | ⟨hz, h'⟩
    · cases h'
    · obtain ⟨l, h, hc, hK⟩ := cut_of (Z := fun xs => K (.sl al t xs)) h'
      exact ⟨_, _, l, h, _, rfl, rfl, isZ_of (by simpa using hz), hc, rfl, hK⟩
  · rename_i xs
    obtain ⟨l, h, hc, hK⟩ := cut_of (Z := fun xs => K (.str xs)) h
    exact ⟨_, _, l, h, _, rfl, rfl, trivial, hc, rfl, hK⟩
  · rename_i id
    split at h
    · cases h
    · rename_i n hn
      obtain ⟨e, al, t, xs, hT, hz, rfl⟩ := lenO_of hn
      have h1 : clen T (.own id) xs.length := ⟨e, al, t, xs, hT, rfl⟩
      have h2 : csz T z (.own id) := ⟨e, al, t, xs, hT, hz⟩
      split at h
      · exact ⟨_, _, 0, xs.length, _, rfl, h1, h2, ⟨.inl ⟨rfl, rfl⟩, .inl ⟨rfl, rfl⟩, Nat.zero_le _, Nat.le_refl _⟩, .inr ⟨rfl, rfl, e, al, t, xs, hT, rfl⟩, h⟩
      · split at h
        · rename_i l hb
          refine ⟨_, _, l.toNat, xs.length, _, rfl, h1, h2, ⟨.inr (by rw [Int.toNat_of_nonneg hb.1]), .inl ⟨rfl, rfl⟩, by omega, Nat.le_refl _⟩, .inl ?_, h⟩
          congr 1
          omega
        · cases h
      · split at h
        · rename_i l hb
          exact ⟨_, _, 0, l.toNat, _, rfl, h1, h2, ⟨.inl ⟨rfl, rfl⟩, .inr (by rw [Int.toNat_of_nonneg hb.1]), by omega, by omega⟩, .inl rfl, h⟩
        · cases h
      · split at h
        · rename_i l l' hb
          refine ⟨_, _, l.toNat, l'.toNat, _, rfl, h1, h2, ⟨.inr (by rw [Int.toNat_of_nonneg hb.1]), .inr (by rw [Int.toNat_of_nonneg (by omega)]), by omega, by omega⟩, .inl ?_, h⟩
          congr 1
          omega
        · cases h
  · rename_i id q n
    split at h
    · cases h
    · rename_i n' hn
      obtain ⟨e, al, t, xs, hT, hz, rfl⟩ := lenO_of hn
      have h2 : csz T z (.view id q n) := ⟨e, al, t, xs, hT, hz⟩
      split at h
      · exact ⟨_, _, 0, n, _, rfl, rfl, h2, ⟨.inl ⟨rfl, rfl⟩, .inl ⟨rfl, rfl⟩, Nat.zero_le _, Nat.le_refl _⟩, rfl, h⟩
      · split at h
        · rename_i l hb
          exact ⟨_, _, l.toNat, n, _, rfl, rfl, h2, ⟨.inr (by rw [Int.toNat_of_nonneg hb.1]), .inl ⟨rfl, rfl⟩, by omega, Nat.le_refl _⟩, rfl, h⟩
        · cases h
      · split at h
        · rename_i l hb
          exact ⟨_, _, 0, l.toNat, _, rfl, rfl, h2, ⟨.inl ⟨rfl, rfl⟩, .inr (by rw [Int.toNat_of_nonneg hb.1]), by omega, by omega⟩, rfl, h⟩
        · cases h
      · split at h
        · rename_i l l' hb
          refine ⟨_, _, l.toNat, l'.toNat, _, rfl, rfl, h2, ⟨.inr (by rw [Int.toNat_of_nonneg hb.1]), .inr (by rw [Int.toNat_of_nonneg (by omega)]), by omega, by omega⟩, ?_, h⟩
          show _ = _
          congr 1
          omega
        · cases h
  · rcases ble_of h with ⟨_, h'⟩ | ⟨hz, h'⟩
    · cases h'
    · have h2 : csz T z .nil := by
        cases z with
        | none => cases hz
        | some n => exact ⟨n, rfl⟩
      split at h'
      · exact ⟨_, 0, 0, 0, _, rfl, rfl, h2, ⟨.inl ⟨rfl, rfl⟩, .inl ⟨rfl, rfl⟩, Nat.le_refl _, Nat.le_refl _⟩, ⟨rfl, rfl, rfl⟩, h'⟩
      · cases h'
  · cases h
end
end Go.Proofs.YtkadllkeekoopaaGreat.Abs
end

section
namespace Go.Proofs.YtkadllkeekoopaaGreat.Abs
open Go.RowKit

/-! ## A mark on a block: no cell is another -/
section
variable {fr : Fr} {σ : Nat → Value} {T : Tab} {w w' : World}
theorem KF.same (h : ∀ ad, w'.cell? ad = w.cell? ad) {F F' : Nat → Prop} (hF : ∀ b, F b → F' b) : ∀ (t : Ty) (x : t.den) (cs : List Value), KF w F t x cs → KF w' F' t x cs
  | .int _, _, _, k => k
  | .bool, _, _, k => k
  | .str, _, _, k => k
  | .unit, _, _, k => k
  | .sl t, _, _, ⟨A, c, k, hl, hr⟩ => by
    refine ⟨A, c, k, hl, ?_⟩
    rcases hr with hr | ⟨ad, hA, hs, hb, hx⟩
    · exact .inl hr
    · refine .inr ⟨ad, hA, hs, hF _ hb, fun i x hi => ?_⟩
      obtain ⟨cs, h1, h2, h3⟩ := hx i x hi
      exact ⟨cs, h1, KF.same h hF t x cs h2, fun j u hj => by rw [h]; exact h3 j u hj⟩
  | .arr _ t, _, _, ⟨h1, h2, h3⟩ => ⟨h1, h2, fun i x hi => KF.same h hF t x _ (h3 i x hi)⟩
  | .pair a b, _, _, ⟨c0, c1, k, h0, h1⟩ => ⟨c0, c1, k, KF.same h hF a _ _ h0, KF.same h hF b _ _ h1⟩
theorem Foot.size (hz : w.heap.size ≤ w'.heap.size) {al : Bool} {b : Nat} (h : Foot fr σ T w al b) : Foot fr σ T w' al b := ⟨Nat.lt_of_lt_of_le h.1 hz, h.2⟩
theorem CR.same (h : ∀ ad, w'.cell? ad = w.cell? ad) (hz : w.heap.size ≤ w'.heap.size) {c : C} {v : Value} (k : CR fr σ T w c v) : CR fr σ T w' c v := by
  cases c with
  | sl al t xs => exact KF.same h (fun b hb => hb.size hz) (.sl t) xs [v] k
  | _ => exact k
theorem CRs.same (h : ∀ ad, w'.cell? ad = w.cell? ad) (hz : w.heap.size ≤ w'.heap.size) : ∀ {cs : List C} {vs : List Value}, CRs fr σ T w cs vs → CRs fr σ T w' cs vs
  | [], [], _ => trivial
  | c :: _, v :: _, k => ⟨k.1.same h hz, CRs.same h hz k.2⟩
  | [], _ :: _, k => k
  | _ :: _, [], k => k
theorem PRs.same (h : ∀ ad, w'.cell? ad = w.cell? ad) (hz : w.heap.size ≤ w'.heap.size) : ∀ {vs : List (Bool × List C)} {us : List Value}, PRs fr σ T w vs us → PRs fr σ T w' vs us
  | [], [], _ => trivial
  | (true, cs) :: _, u :: _, k => ⟨k.1.imp fun arr q => ⟨q.1, q.2.same h hz⟩, PRs.same h hz k.2⟩
  | (false, cs) :: _, u :: _, k => ⟨k.1.imp fun c q => ⟨q.1, q.2.same h hz⟩, PRs.same h hz k.2⟩
  | [], _ :: _, k => k
  | _ :: _, [], k => k
theorem VR.same (h : ∀ ad, w'.cell? ad = w.cell? ad) (hz : w.heap.size ≤ w'.heap.size) {v : V} {u : Value} (k : VR fr σ T w v u) : VR fr σ T w' v u := by
  cases v with
  | c x => exact CR.same h hz k
  | agg cs => exact k.imp fun arr q => ⟨q.1, q.2.same h hz⟩
  | tup vs => exact k.imp fun arr q => ⟨q.1, q.2.same h hz⟩
  | av n t xs => exact k.imp fun arr q => ⟨q.1, KF.same h (fun _ hb => hb) _ _ _ q.2⟩
  | ra cs =>
    obtain ⟨ad, al, h1, h2, h3, h4⟩ := k
    exact ⟨ad, al, h1, h2, h3.imp id (fun hf => hf.size hz), fun j c hj => by
      obtain ⟨u, h5, h6⟩ := h4 j c hj
      exact ⟨u, by rw [h]; exact h5, h6.same h hz⟩⟩
  | oa id i off => exact k
  | pt id off => exact k
  | cap id k' => exact k
  | skip => exact k
  | undef => trivial
theorem RelS.remark {s : St} {a : Act} (R : RelS fr σ s a w) (h : ∀ ad, w'.cell? ad = w.cell? ad) (hz : w'.heap.size = w.heap.size) (hos : w'.os = w.os) (ht : w'.tape = w.tape) (hout : w'.output = w.output) {g : Nat} (hg : fr.new g) (hno : ¬ Own σ s.T g) (hh : ∀ b, b ≠ g → w'.heap[b]? = w.heap[b]?) : RelS fr σ s a w' := by
  refine ⟨⟨hos.trans R.kept.os, ht.trans R.kept.tape, hout.trans R.kept.output, by rw [hz]; exact R.kept.size, fun k hk hm => ?_, fun k hk => R.kept.fresh k (by rw [← hz]; exact hk), R.kept.nmb⟩, R.fa, R.dist, fun id o ho => ?_, fun i v hi => VR.same h (by omega) (R.env i v hi), R.tmps, R.small, R.defers⟩
  · rw [hh k (fun e => ?_)]
    · exact R.kept.block k hk hm
    · subst e
      rcases R.kept.nmb k hg with h | h
      · omega
      · exact hm h
  · have hR := R.objs id o ho
    have hne : ∀ b, blk (σ id) = some b → w'.heap[b]? = w.heap[b]? := fun b hb => hh b fun e => hno ⟨id, o, ho, by rw [← e]; exact hb⟩
    cases o with
    | row e al t xs =>
      obtain ⟨inner, how, hn, hk⟩ := hR
      refine ⟨inner, ⟨how.1, ?_⟩, hn, fun i x hi => KF.same h (fun b hb => hb.size (by omega)) t x _ (hk i x hi)⟩
      rcases how.2 with hn | ⟨g', cap, cur, hv, hg', hhh, rest⟩
      · exact .inl hn
      · exact .inr ⟨g', cap, cur, hv, hg', by rw [hne g' (by rw [hv]; rfl)]; exact hhh, rest⟩
    | win _ _ _ => exact hR
    | box ty cs =>
      obtain ⟨g', arr, hv, hg', hhh, hc⟩ := hR
      exact ⟨g', arr, hv, hg', by rw [hne g' (by rw [hv]; rfl)]; exact hhh, hc.same h (by omega)⟩
    | arr ty n t xs =>
      obtain ⟨g', arr, hv, hg', hhh, hc⟩ := hR
      exact ⟨g', arr, hv, hg', by rw [hne g' (by rw [hv]; rfl)]; exact hhh, KF.same h (fun _ hb => hb) _ _ _ hc⟩
    | iter xs p =>
      obtain ⟨g', bs, hv, hg', hhh, hc⟩ := hR
      exact ⟨g', bs, hv, hg', by rw [hne g' (by rw [hv]; rfl)]; exact hhh, hc⟩
end

section
variable {ρ : Type} {G : Ctx} {fr : Fr} {σ : Nat → Value} {s : St} {a : Act} {w : World} {o : Oper} {K : V → St → Option ρ} {r : ρ}
/-- The world in which a row's block is marked. -/
theorem run_mark {P : Program} {g e : Nat} {cur : Array Value} (h : w.heap[g]? = some (.cells cur e (0, 0))) : ∃ w', (markStringish ⟨g, 0, none⟩).run P w = .ok () w' ∧ (∀ ad, w'.cell? ad = w.cell? ad) ∧ w'.heap.size = w.heap.size ∧ w'.os = w.os ∧ w'.tape = w.tape ∧ w'.output = w.output ∧ ∀ b, b ≠ g → w'.heap[b]? = w.heap[b]? := by
  have hsh : w.shape? g = some (e, cur.size) := by
    unfold World.shape?
    rw [h]
  refine ⟨w.freeze ⟨g, cur.size, none⟩ 1, by simp [markStringish, hsh], ?_, ?_, ?_, ?_, ?_, ?_⟩
  all_goals
    unfold World.freeze
    rw [if_neg (by decide)]
  · intro ad
    simp only [World.cell?, Array.getElem?_modify]
    by_cases e1 : g = ad.block
    · subst e1
      rw [if_pos rfl, h]
      rfl
    · rw [if_neg e1]
  · simp
  · intro b hb
    simp only [Array.getElem?_modify]
    rw [if_neg (Ne.symm hb)]
end
end Go.Proofs.YtkadllkeekoopaaGreat.Abs
end

section
namespace Go.Proofs.YtkadllkeekoopaaGreat.Abs
open Go.RowKit

section
variable {ρ : Type} {G : Ctx} {fr : Fr} {σ : Nat → Value} {s : St} {a : Act} {w : World} {o : Oper} {K : V → St → Option ρ} {r : ρ}

theorem goes_slice (R : RelS fr σ s a w) (H : TIs fr.P G) {t : TypeId} {x : Operand} {y z : Option Operand} (ho : o.op = .slice t x y z none) {v : V} (hv : ev s x = some v) {lo hi : Option Int} (hl : evO s y = some lo) (hh : evO s z = some hi)
    (hstr : (isStrT G t == (match (generalizing := false) v with | .c (.str _) => true | _ => false)) = true) (h : (cutV s.T (eszS G t) v lo hi fun c => K (.c c) s) = some r) : Goes fr o a w K r := by
  obtain ⟨c, n, l, hb, d, rfl, hn, hz, hc, hres, hK⟩ := cutV_spec h
  obtain ⟨b1, b2⟩ := hc.bnd R hl hh
  obtain ⟨_, _, hlh, hhn⟩ := hc
  have hV : CR fr σ s.T w c (a.eval x) := ev_spec R hv
  have ex : ∀ u, (Instr.sliceAt t (a.eval x) (y.map a.eval) (z.map a.eval) none).run fr.P w = .ok u w → (execOp a.eval o).run fr.P w = .ok (.value u) w := fun u hu => by
    simp only [execOp, ho, Option.map_none, Sem.run_bind, hu, Result.andThen_ok, Sem.run_pure]
  cases c with
  | sl al τ xs =>
    obtain ⟨A, cap, hx, hlc, hrow⟩ := hV
    simp at hx
    cases hn
    obtain ⟨e, j, hu, hj, hjs⟩ := eszS_of H hz
    rw [hx] at ex
    refine Goes.val (ex _ (run_slice_gen hu hj A xs.length cap l hb _ _ b1 b2 hlh (by omega) w)) hK R ?_
    cases hres
    refine ⟨_, _, by rw [List.length_drop, List.length_take]; congr 2; omega, by rw [List.length_drop, List.length_take]; omega, ?_⟩
    by_cases hE : hb = l
    · left
      subst hE
      exact List.drop_eq_nil_of_le (by rw [List.length_take]; omega)
    · rcases hrow with rfl | ⟨ad, rfl, hs, hf, hcell⟩
      · left; simp
      · right
        refine ⟨ad.add (l * j.size), by rw [if_neg (by omega)]; rfl, by rw [add_lit' ad hs], by rw [add_lit' ad hs]; exact hf, fun i q hi => ?_⟩
        rw [List.getElem?_drop, List.getElem?_take] at hi
        split at hi
        · obtain ⟨cs, h1, h2, h3⟩ := hcell (l + i) q hi
          refine ⟨cs, h1, h2, fun m u hm => ?_⟩
          rw [add_lit' ad hs, hjs]
          show w.cell? ⟨ad.block, ad.off + l * τ.size + (i * τ.size + m), none⟩ = some u
          rw [show ad.off + l * τ.size + (i * τ.size + m) = ad.off + ((l + i) * τ.size + m) by rw [Nat.add_mul]; omega]
          exact h3 m u hm
        · cases hi
  | str xs =>
    obtain ⟨bs, hx, rfl⟩ := hV
    cases hn
    have ht : fr.P.underlying t = some .string := isStrT_of H (by simpa using hstr)
    rw [hx] at ex
    refine Goes.val (ex _ (run_string_gen ht bs l hb _ _ b1 (by rw [Array.length_toList] at b2; exact b2) hlh (by rw [Array.length_toList] at hhn; exact hhn) w)) hK R ?_
    cases hres
    exact ⟨_, rfl, extract_list bs l hb⟩
  | own id =>
    obtain ⟨e0, al, τ, xs, hT, rfl⟩ := hn
    obtain ⟨e1, al1, τ1, xs1, hT1, hz⟩ := hz
    rw [hT] at hT1
    cases hT1
    obtain ⟨e, j, hu, hj, hjs⟩ := eszS_of H hz
    obtain ⟨hσ, _⟩ := hV
    rcases row_value (R.objs id _ hT) with ⟨rfl, hval⟩ | ⟨g, cap, hval, hcap⟩
    · simp at hhn
      subst hhn
      have : l = 0 := by omega
      subst this
      rw [hσ, hval] at ex
      refine Goes.val (ex _ (run_slice_gen hu hj none 0 0 0 0 _ _ b1 b2 (Nat.le_refl _) (Nat.le_refl _) w)) hK R ?_
      rcases hres with rfl | ⟨rfl, _⟩
      · exact ⟨_, none, 0, 0, none, 0, hT, hval, Nat.le_refl _, rfl, Nat.le_refl _, fun _ => ⟨rfl, rfl⟩, fun h => absurd h (by omega)⟩
      · exact ⟨hval.symm, _, hT⟩
    · rw [hσ, hval] at ex
      refine Goes.val (ex _ (run_slice_gen hu hj (some ⟨g, 0, none⟩) xs.length cap l hb _ _ b1 b2 hlh (by omega) w)) hK R ?_
      rcases hres with rfl | ⟨rfl, rfl, _, _, _, xs2, hT2, rfl⟩
      · refine ⟨_, _, _, _, _, _, hT, hval, by omega, rfl, by omega, fun h0 => ?_, fun h0 => ?_⟩
        · subst h0
          refine ⟨?_, by omega⟩
          split
          · rfl
          · simp [Addr.add]
        · exact ⟨⟨g, 0, none⟩, rfl, by rw [if_neg (by omega), hjs]; rfl⟩
      · rw [hT] at hT2
        cases hT2
        refine ⟨?_, _, hT⟩
        rw [hval]
        have : (if cap = 0 then some (⟨g, 0, none⟩ : Addr) else (some ⟨g, 0, none⟩ : Option Addr).map (·.add (0 * j.size))) = some ⟨g, 0, none⟩ := by
          split
          · rfl
          · simp [Addr.add]
        rw [this]
        simp
  | view id q m =>
    cases hn
    obtain ⟨e1, al1, τ, xs, hT, hz⟩ := hz
    obtain ⟨e, j, hu, hj, hjs⟩ := eszS_of H hz
    obtain ⟨o1, A, n1, cap, A', c', ho1, hσ, h1, hx, h3, h4, h5⟩ := hV
    rw [hT] at ho1
    cases ho1
    rw [hx] at ex
    refine Goes.val (ex _ (run_slice_gen hu hj A' n c' l hb _ _ b1 b2 hlh (by omega) w)) hK R ?_
    cases hres
    refine ⟨_, A, n1, cap, _, _, hT, hσ, by omega, rfl, by omega, fun h0 => ?_, fun h0 => ?_⟩
    · have hq : q = 0 := by omega
      have hl0 : l = 0 := by omega
      subst hq hl0
      obtain ⟨rfl, rfl⟩ := h4 rfl
      refine ⟨?_, by omega⟩
      split
      · rfl
      · cases A' <;> simp [Addr.add]
    · obtain ⟨ad, rfl, rfl⟩ := h5 (by omega)
      refine ⟨ad, rfl, ?_⟩
      rw [if_neg (by omega), hjs]
      simp only [Option.map_some, add_add]
      congr 2
      rw [Nat.add_mul]
      rfl
  | nil =>
    cases hn
    obtain ⟨rfl, rfl, rfl⟩ := hres
    obtain ⟨z0, hz⟩ := hz
    obtain ⟨e, j, hu, hj, hjs⟩ := eszS_of H hz
    have hx : a.eval x = .slice none 0 0 := hV
    rw [hx] at ex
    exact Goes.val (ex _ (run_slice_gen hu hj none 0 0 0 0 _ _ b1 b2 (Nat.le_refl _) (Nat.le_refl _) w)) hK R rfl
  | _ => exact hn.elim

theorem goes_index (R : RelS fr σ s a w) (H : TIs fr.P G) {t : TypeId} {x y : Operand} (ho : o.op = .index t x y) {xs : List UInt8} (hv : evC s x = some (.str xs)) {i : Int} (hi : evI s y = some i) (ht : isStrT G t = true) (hb : 0 ≤ i ∧ i < (xs.length : Int))
    (hK : K (.c (.int .u8 ((xs.getD i.toNat 0).toNat : Int))) s = some r) : Goes fr o a w K r := by
  obtain ⟨bs, hx, rfl⟩ := evC_spec R hv
  obtain ⟨k, hk⟩ := evI_spec R hi
  have hlt : i.toNat < bs.size := by
    have := hb.2
    rw [Array.length_toList] at this
    show i.toNat < bs.data.size
    omega
  refine Goes.val (u := .int .u8 (((bs.data.toList.getD i.toNat 0).toNat : Nat) : Int)) ?_ hK R rfl
  have hg : bs[i.toNat]? = some (bs.data.toList.getD i.toNat 0) := by
    have h1 : bs[i.toNat]? = some bs[i.toNat] := getElem?_pos bs i.toNat hlt
    rw [h1]
    congr 1
    have hlt' : i.toNat < bs.data.toList.length := by rw [Array.length_toList]; exact hlt
    simp only [List.getD, List.getElem?_eq_getElem hlt', Option.getD_some]
    rfl
  simp [execOp, ho, hx, hk, Instr.index, asIntOf, run_underlying (isStrT_of H ht), hb.1, hg]

/-! ## Other types -/
theorem foldl_push (l : List Int) : ∀ (r : ByteArray), (l.foldl (fun r n => r.push (UInt8.ofNat n.toNat)) r).data.toList = r.data.toList ++ l.map fun n => UInt8.ofNat n.toNat := by
  induction l with
  | nil => intro r; simp
  | cons n l ih =>
    intro r
    rw [List.foldl_cons, ih]
    simp [ByteArray.push]
theorem goes_convert_int (R : RelS fr σ s a w) (H : TIs fr.P G) {src dst : TypeId} {x : Operand} (ho : o.op = .convert src dst x) (hs : (tiOf G src).ty.isNone = false) {k0 k : IntKind} {n : Int} (hv : evC s x = some (.int k0 n)) (hd : plainTy G dst = some (.int k)) (hK : K (.c (.int k (k.wrap n))) s = some r) : Goes fr o a w K r := by
  have hx : a.eval x = .int k0 n := evC_spec R hv
  obtain ⟨_, _, d, hd1, hd2⟩ := plain_of H hd
  simp only [] at hd2
  subst hd2
  cases hsy : (tiOf G src).ty with
  | none => rw [hsy] at hs; cases hs
  | some τ =>
    obtain ⟨d, hsd, _⟩ := (H src τ hsy).agg
    refine Goes.val (u := .int k (k.wrap n)) ?_ hK R rfl
    simp only [execOp, ho, hx]
    have : (convert src dst (.int k0 n)).run fr.P w = .ok (.int k (k.wrap n)) w := by
      simp only [convert, Sem.run_bind, run_underlying hsd, run_underlying hd1, Result.andThen_ok]
      rfl
    simp only [Sem.run_bind, this, Result.andThen_ok, Sem.run_pure]
theorem goes_convert_str (R : RelS fr σ s a w) (H : TIs fr.P G) {src dst : TypeId} {x : Operand} (ho : o.op = .convert src dst x) (hs : (tiOf G src).ty.isNone = false) {xs : List UInt8} (hv : evC s x = some (.str xs)) (hd : plainTy G dst = some .str) (hK : K (.c (.str xs)) s = some r) : Goes fr o a w K r := by
  have hV := evC_spec R hv
  have hV' := hV
  obtain ⟨bs, hx, _⟩ := hV'
  obtain ⟨_, _, d, hd1, hd2⟩ := plain_of H hd
  simp only [] at hd2
  subst hd2
  cases hsy : (tiOf G src).ty with
  | none => rw [hsy] at hs; cases hs
  | some τ =>
    obtain ⟨d, hsd, _⟩ := (H src τ hsy).agg
    refine Goes.val (u := a.eval x) ?_ hK R hV
    simp only [execOp, ho, hx]
    have : (convert src dst (.string bs)).run fr.P w = .ok (.string bs) w := by
      simp only [convert, Sem.run_bind, run_underlying hsd, run_underlying hd1, Result.andThen_ok]
      rfl
    simp only [Sem.run_bind, this, Result.andThen_ok, Sem.run_pure]
theorem goes_convert_bytes (R : RelS fr σ s a w) (H : TIs fr.P G) {src dst : TypeId} {x : Operand} (ho : o.op = .convert src dst x) {xs : List UInt8} (hv : evC s x = some (.str xs)) (hb : isBytes G dst = true) (hstr : isStrT G src = true)
    (hK : K (.c (.sl false (.int .u8) (xs.map fun b => (b.toNat : Int)))) s = some r) : Goes fr o a w K r := by
  obtain ⟨bs, hx, rfl⟩ := evC_spec R hv
  obtain ⟨e, hd, he⟩ := isBytes_of H hb
  have hrun := run_bytes_of_string (P := fr.P) w src dst e bs (isStrT_of H hstr) hd he
  have hB : Below w.heap.size w (w.drew.alloc (.cells (bytesRow bs (grownCap w bs.size 0 e)) e ((bytesRow bs (grownCap w bs.size 0 e)).size, (bytesRow bs (grownCap w bs.size 0 e)).size + 1))) :=
    (Below.self_drew _ w).alloc (Nat.le_refl _) _
  refine Goes.val (by simp only [execOp, ho, hx, Sem.run_bind, hrun, Result.andThen_ok, Sem.run_pure]; rfl) hK (R.grow hB) ?_
  refine ⟨some ⟨w.heap.size, 0, none⟩, grownCap w bs.size 0 e, ?_, ?_, .inr ⟨⟨w.heap.size, 0, none⟩, rfl, rfl, ⟨?_, ?_, .inl (R.kept.fresh _ (Nat.le_refl _))⟩, fun i n hi => ?_⟩⟩
  · rw [List.length_map, Array.length_toList]; rfl
  · rw [List.length_map, Array.length_toList]
    exact grownCap_ge w bs.size 0 e
  · simp
  · rintro ⟨id, o', hT, hbl⟩
    have := ((R.objs id o' hT).lt _ hbl).2
    simp at this
  · rw [List.getElem?_map] at hi
    cases hq : bs.data.toList[i]? with
    | none => rw [hq] at hi; cases hi
    | some b =>
      rw [hq] at hi
      simp at hi
      subst hi
      refine ⟨[.int .u8 b.toNat], rfl, rfl, fun j u hj => ?_⟩
      cases j with
      | succ j => simp at hj
      | zero =>
        simp at hj
        subst hj
        have := World.cell?_alloc_mark w.drew (bytesRow bs (grownCap w bs.size 0 e)) e ((bytesRow bs (grownCap w bs.size 0 e)).size, (bytesRow bs (grownCap w bs.size 0 e)).size + 1) (0 + (i * (Ty.int .u8).size + 0))
        refine this.trans ?_
        have hlt : i < bs.data.size := by
          have := (List.getElem?_eq_some_iff.1 hq).1
          simpa using this
        simp only [Ty.size, Nat.mul_one, Nat.zero_add, Nat.add_zero, bytesRow]
        rw [Array.getElem?_append_left (by simpa using hlt), Array.getElem?_map]
        rw [Array.getElem?_toList] at hq
        rw [hq]
        rfl
theorem goes_convert_text (R : RelS fr σ s a w) (H : TIs fr.P G) {src dst : TypeId} {x : Operand} (ho : o.op = .convert src dst x) {c : C} (hv : evC s x = some c) (hb : isBytes G src = true) (hd : plainTy G dst = some .str) {xs : List Int} (hc : cont s.T (.int .u8) c = some xs)
    (hK : K (.c (.str (xs.map fun n => UInt8.ofNat n.toNat))) s = some r) : Goes fr o a w K r := by
  obtain ⟨e, hs, he⟩ := isBytes_of H hb
  obtain ⟨_, _, d, hd1, hd2⟩ := plain_of H hd
  simp only [] at hd2
  subst hd2
  obtain ⟨A, cap, hx, hlc, hrow⟩ := cont_spec R hc (evC_spec R hv)
  simp at hx
  have hrun := run_convert_bytes_string (P := fr.P) w src dst e A xs.length cap hs he hd1
  have hrun2 : ∃ b : ByteArray, (Conv.bytesToString (.slice A xs.length cap)).run fr.P w = .ok (.string b) w ∧ b.data.toList = xs.map fun n => UInt8.ofNat n.toNat := by
    cases A with
    | none =>
      rcases hrow with rfl | ⟨ad, hA, _⟩
      · exact ⟨.empty, by simp [Conv.bytesToString], rfl⟩
      · cases hA
    | some ad =>
      have hl : (loadCells ad xs.length).run fr.P w = .ok (xs.map (Value.int .u8)).toArray w := by
        have := run_loadCells_list (P := fr.P) w ad (xs.map (Value.int .u8)) (fun j v hj => by
          rcases hrow with rfl | ⟨ad', hA, hsp, _, hcell⟩
          · simp at hj
          · cases hA
            rw [List.getElem?_map] at hj
            cases hq : xs[j]? with
            | none => rw [hq] at hj; cases hj
            | some n =>
              rw [hq] at hj
              simp at hj
              subst hj
              obtain ⟨cs, h1, h2, h3⟩ := hcell j n hq
              have h2 : cs = [.int .u8 n] := h2
              have := h3 0 (.int .u8 n) (by rw [h2]; rfl)
              rw [add_lit' ad hsp]
              simpa [Ty.size] using this)
        simpa using this
      refine ⟨_, run_bytesToString w ad xs.length cap xs hl, ?_⟩
      rw [foldl_push]
      rfl
  obtain ⟨b, hb1, hb2⟩ := hrun2
  exact Goes.val (u := .string b) (by simp only [execOp, ho, hx, Sem.run_bind, hrun, hb1, Result.andThen_ok, Sem.run_pure]) hK R ⟨b, rfl, hb2⟩
theorem freeze_foot2 (R : RelS fr σ s a w) {id : Nat} {s' : St} (h : freeze id s = some s') :
    (∀ al b, Foot fr σ s.T w al b → Foot fr σ s'.T w al b) ∧ (∀ b, blk (σ id) = some b → Foot fr σ s'.T w false b) ∧ ∀ i o, i ≠ id → get s.T i = some o → ∃ o', get s'.T i = some o' := by
  unfold Go.Proofs.YtkadllkeekoopaaGreat.Abs.freeze at h
  split at h
  case h_2 => cases h
  rename_i e al t xs ho
  cases h
  have hr := R.objs id _ ho
  have hget : ∀ i, get (mapT (freezeC id al t xs) (del s.T id)) i = if id = i then none else (get s.T i).map (mapO (freezeC id al t xs)) := fun i => by
    rw [get_mapT, get_del]
    by_cases e : id = i <;> simp [e]
  have hown : ∀ b, Own σ (mapT (freezeC id al t xs) (del s.T id)) b → Own σ s.T b ∧ blk (σ id) ≠ some b := by
    rintro b ⟨i, o1, hi, hbl⟩
    rw [hget] at hi
    by_cases e : id = i
    · rw [if_pos e] at hi; cases hi
    · rw [if_neg e] at hi
      cases hi' : get s.T i with
      | none => rw [hi'] at hi; cases hi
      | some o2 => exact ⟨⟨i, o2, hi', hbl⟩, R.dist i o2 id _ hi' ho (Ne.symm e) b hbl⟩
  refine ⟨fun al' b hf => ⟨hf.1, fun hw => hf.2.1 (hown b hw).1, hf.2.2⟩, fun b hb => ⟨(hr.lt b hb).2, fun hw => (hown b hw).2 hb, .inl (hr.lt b hb).1⟩, fun i o hi hT => ?_⟩
  exact ⟨_, by show get (mapT (freezeC id al t xs) (del s.T id)) i = _; rw [hget, if_neg (Ne.symm hi), hT]; rfl⟩
/-- A conversion to the type itself: what is converted is only read from here on. -/
theorem goes_convert_same (R : RelS fr σ s a w) (H : TIs fr.P G) {src : TypeId} {x : Operand} (ho : o.op = .convert src src x) {id : Nat} (hv : evC s x = some (.own id)) (hb : isBytes G src = true) {e : TypeId} {al : Bool} {t : Ty} {y : t.den} {ys : List t.den} (hT : get s.T id = some (.row e al t (y :: ys))) {s' : St} (hf : freeze id s = some s') (hK : K (.c (.sl al t (y :: ys))) s' = some r) : Goes fr o a w K r := by
  obtain ⟨hx, _⟩ := evC_spec R hv
  obtain ⟨e', hd, he⟩ := isBytes_of H hb
  have hr := R.objs id _ hT
  obtain ⟨inner, how, hn, hk⟩ := hr
  rcases how.2 with ⟨_, h0⟩ | ⟨g, cap, cur, hσ, _, hh, rest⟩
  · simp at h0
  have R' := R.freeze hf
  obtain ⟨w', hrun, h1, h2, h3, h4, h5, h6⟩ := run_mark (P := fr.P) hh
  have hrow : KF w (Foot fr σ s'.T w al) (.sl t) (y :: ys) [σ id] := by
    obtain ⟨f1, f2, _⟩ := freeze_foot2 R hf
    exact row_whole (R.objs id _ hT) (fun b hb => f1 al b hb) (fun b hb => Foot.up (by simp) (f2 b hb))
  refine Goes.val (u := σ id) (w' := w') ?_ hK (R'.remark h1 h2 h3 h4 h5 (hn g (by rw [hσ]; rfl)) (fun ⟨i, o', ho', hb'⟩ => ?_) h6) (KF.same h1 (fun b hb => hb.size (by omega)) (.sl t) (y :: ys) [σ id] hrow)
  · have hu : fr.P.underlying src = some (.slice e') := hd
    have hc : (convert src src (σ id)).run fr.P w = .ok (σ id) w' := by
      rw [hσ]
      simp only [convert, Sem.run_bind, run_underlying hu, run_underlying he, Result.andThen_ok, beq_self_eq_true, hrun, Sem.run_pure]
    simp only [execOp, ho, hx, Sem.run_bind, hc, Result.andThen_ok, Sem.run_pure]
  · obtain ⟨_, f2, _⟩ := freeze_foot2 R hf
    exact (f2 g (by rw [hσ]; rfl)).2.1 ⟨i, o', ho', hb'⟩
end
end Go.Proofs.YtkadllkeekoopaaGreat.Abs
end

section
namespace Go.Proofs.YtkadllkeekoopaaGreat.Abs
open Go.RowKit

section
variable {ρ : Type} {G : Ctx} {fr : Fr} {σ : Nat → Value} {s : St} {a : Act} {w : World} {o : Oper} {K : V → St → Option ρ} {r : ρ}

/-! ## New objects -/
theorem RelS.newMv (_R : RelS fr σ s a w) {id : Nat} {ob : Obj} {s' : St} (h : newO id ob s = some s') {w' : World} (hb : Below w.heap.size w w') {v : Value}
    (hv : ∀ b, blk v = some b → w.heap.size ≤ b) : Mv fr fr σ s.T w (upd σ id v) s'.T w' _root_.id (fun _ => true) _root_.id ∧ get s'.T id = some ob := by
  obtain ⟨hn, rfl⟩ := newO_some h
  have hne : ∀ i o', get s.T i = some o' → i ≠ id := fun i o' hi e => by rw [e, hn] at hi; cases hi
  have hown : ∀ b, Own (upd σ id v) ((id, ob) :: s.T) b → Own σ s.T b ∨ w.heap.size ≤ b := by
    rintro b ⟨i, o', hi, hbl⟩
    rw [get_cons] at hi
    by_cases e : id = i
    · subst e
      rw [upd_same] at hbl
      exact .inr (hv b hbl)
    · rw [if_neg e] at hi
      rw [upd_other σ id v (Ne.symm e)] at hbl
      exact .inl ⟨i, o', hi, hbl⟩
  exact ⟨.plain (fun al b h => ⟨⟨Nat.lt_of_lt_of_le h.1 hb.size, fun hw => (hown b hw).elim h.2.1 (fun hle => absurd h.1 (by omega)), h.2.2⟩, hb.block b h.1⟩)
    (fun i o' hi => ⟨o', by rw [get_cons, if_neg (Ne.symm (hne i o' hi))]; exact hi, upd_other σ id v (hne i o' hi), rfl⟩), by rw [get_cons, if_pos rfl]⟩
theorem below_alloc (w : World) (ob : Go.Obj) : Below w.heap.size w (w.alloc ob) := (Below.refl _ w).alloc (Nat.le_refl _) ob

/-- A new variable of cells. -/
theorem goes_newbox (R : RelS fr σ s a w) {d : Nat} {t : TypeId} {cs : List C} {vs : Array Value} (hc : CRs fr σ s.T w cs vs.toList) {s' : St} (hn : newO d (.box t cs) s = some s')
    (hr : (execOp a.eval o).run fr.P w = .ok (.value (.pointer (some ⟨w.heap.size, 0, none⟩))) (w.alloc (.cells vs t))) (hK : K (.pt d 0) s' = some r) : Goes fr o a w K r := by
  have hv : ∀ b, blk (.pointer (some ⟨w.heap.size, 0, none⟩)) = some b → w.heap.size ≤ b := fun b hb => by simp [blk] at hb; omega
  obtain ⟨hm, hg⟩ := R.newMv hn (below_alloc w (.cells vs t)) hv
  have R' := R.new hn (below_alloc w (.cells vs t)) hv ⟨w.heap.size, vs, by rw [upd_same], R.kept.fresh _ (Nat.le_refl _), heap_alloc_new w _, hm.crs' hc⟩
  exact Goes.val hr hK R' ⟨_, ⟨w.heap.size, 0, none⟩, hg, by rw [upd_same]; rfl, rfl, rfl⟩
theorem goes_newarr (R : RelS fr σ s a w) {d : Nat} {t : TypeId} {n : Nat} {u : Ty} {xs : List u.den} {vs : Array Value} (hc : ∀ w, KF w (fun _ => False) (.arr n u) xs vs.toList) {s' : St} (hn : newO d (.arr t n u xs) s = some s')
    (hr : (execOp a.eval o).run fr.P w = .ok (.value (.pointer (some ⟨w.heap.size, 0, none⟩))) (w.alloc (.cells vs t))) (hK : K (.pt d 0) s' = some r) : Goes fr o a w K r := by
  have hv : ∀ b, blk (.pointer (some ⟨w.heap.size, 0, none⟩)) = some b → w.heap.size ≤ b := fun b hb => by simp [blk] at hb; omega
  obtain ⟨hm, hg⟩ := R.newMv hn (below_alloc w (.cells vs t)) hv
  have R' := R.new hn (below_alloc w (.cells vs t)) hv ⟨w.heap.size, vs, by rw [upd_same], R.kept.fresh _ (Nat.le_refl _), heap_alloc_new w _, hc _⟩
  exact Goes.val hr hK R' ⟨_, ⟨w.heap.size, 0, none⟩, hg, by rw [upd_same]; rfl, rfl, rfl⟩

theorem goes_alloc (R : RelS fr σ s a w) (H : TIs fr.P G) {d : Nat} {t : TypeId} (ho : o.op = .alloc t) {τ : Ty} (ht : (tiOf G t).ty = some τ)
    (h : (∃ s', newO d (.box t (zeroC τ)) s = some s' ∧ K (.pt d 0) s' = some r) ∨ (∃ n u s', τ = .arr n u ∧ newO d (.arr t n u (List.replicate n u.zero)) s = some s' ∧ K (.pt d 0) s' = some r)) : Goes fr o a w K r := by
  obtain ⟨f, dd, z, hf, _, _, _, hz, hZ, _⟩ := (H t τ ht).ex
  have hr : (execOp a.eval o).run fr.P w = .ok (.value (.pointer (some ⟨w.heap.size, 0, none⟩))) (w.alloc (.cells z.cells t)) := by
    simp [execOp, ho, Instr.alloc, zeroValue, typeInfo, hf, hz, newVar, newRow]
  rcases h with ⟨s', hn, hK⟩ | ⟨n, u, s', rfl, hn, hK⟩
  · exact goes_newbox R (hZ.crs fr σ s.T w) hn hr hK
  · exact goes_newarr R (fun w => hZ.kf w _) hn hr hK
theorem goes_box (R : RelS fr σ s a w) {d : Nat} {t : TypeId} {x : Operand} (ho : o.op = .box t x) {v : V} (hv : ev s x = some v)
    (h : (∃ cs s', cellsOf v = some cs ∧ newO d (.box t cs) s = some s' ∧ K (.pt d 0) s' = some r) ∨ (∃ n u xs s', v = .av n u xs ∧ newO d (.arr t n u xs) s = some s' ∧ K (.pt d 0) s' = some r)) : Goes fr o a w K r := by
  have hr : (execOp a.eval o).run fr.P w = .ok (.value (.pointer (some ⟨w.heap.size, 0, none⟩))) (w.alloc (.cells (a.eval x).cells t)) := by
    simp [execOp, ho, Instr.box, newVar, newRow]
  have hV := ev_spec R hv
  rcases h with ⟨cs, s', hc, hn, hK⟩ | ⟨n, u, xs, s', rfl, hn, hK⟩
  · exact goes_newbox R (cellsOf_spec R hc hV) hn hr hK
  · obtain ⟨arr, hx, hk⟩ := hV
    rw [hx] at hr
    exact goes_newarr R (fun w' => KF.imp (fun b hb => hb.elim) (.arr n u) xs _ hk) hn hr hK

/-! ## Structs -/
theorem fold_set : ∀ (l : List Value) (k off : Nat) (cs : Array Value), off + k + l.length ≤ cs.size → ((l.zipIdx k).foldl (fun cs p => cs.setIfInBounds (off + p.2) p.1) cs).toList = cs.toList.take (off + k) ++ l ++ cs.toList.drop (off + k + l.length)
  | [], k, off, cs, _ => by simp
  | v :: l, k, off, cs, h => by
    simp only [List.zipIdx_cons, List.foldl_cons]
    rw [fold_set l (k + 1) off _ (by simp at h ⊢; omega)]
    have e := list_seg_step cs.toList (off + k) v l (by simp at h ⊢; omega)
    simpa [Array.toList_setIfInBounds, Nat.add_assoc] using e
theorem fill_step (place : Nat → Option (Nat × Nat)) (cells : Array Value) (i : Nat) (v : Value) (rest : List (Nat × Value)) {off size : Nat} (hp : place i = some (off, size)) (hs : v.cells.size = size) (hf : off + v.cells.size ≤ cells.size) :
    ∃ cells' : Array Value, Instr.fill place cells ((i, v) :: rest) = Instr.fill place cells' rest ∧ cells'.toList = cells.toList.take off ++ v.cells.toList ++ cells.toList.drop (off + v.cells.size) := by
  refine ⟨v.cells.zipIdx.foldl (fun cs (c, j) => cs.setIfInBounds (off + j) c) cells, ?_, ?_⟩
  · simp only [Instr.fill, hp]
    rw [if_neg (by simp [hs]; omega)]
  · have := fold_set v.cells.toList 0 off cells (by simpa using hf)
    rw [← Array.foldl_toList, Array.toList_zipIdx]
    simpa using this
theorem spliceC_spec {T : Tab} {cs new cs' : List C} {off : Nat} (h : spliceC cs off new = some cs') {vs us : List Value} (hv : CRs fr σ T w cs vs) (hu : CRs fr σ T w new us) :
    off + us.length ≤ vs.length ∧ CRs fr σ T w cs' (vs.take off ++ us ++ vs.drop (off + us.length)) := by
  unfold spliceC at h
  rcases ble_of h with ⟨hb, h'⟩ | ⟨_, h'⟩
  · cases h'
    have hb := Nat.le_of_ble_eq_true hb
    have h1 := CRs.len hv
    have h2 := CRs.len hu
    rw [h1, h2]
    exact ⟨hb, CRs.app (CRs.app (CRs.take off hv) hu) (CRs.drop _ hv)⟩
  · cases h'
theorem buildC_spec (R : RelS fr σ s a w) {fields : List (Nat × Nat × Bool)} {places : Nat → Option (Nat × Nat)} (hp : ∀ i x, fields[i]? = some x → places i = some (x.1, x.2.1)) :
    ∀ {parts : List (Nat × Operand)} {cs cs' : List C} {cells : Array Value}, opK.buildC s fields cs parts = some cs' → CRs fr σ s.T w cs cells.toList →
      ∃ cells', Instr.fill places cells (parts.map fun p => (p.1, a.eval p.2)) = some cells' ∧ CRs fr σ s.T w cs' cells'.toList
  | [], cs, cs', cells, h, hc => by
    simp only [opK.buildC] at h
    cases h
    exact ⟨cells, rfl, hc⟩
  | (i, x) :: rest, cs, cs', cells, h, hc => by
    simp only [opK.buildC] at h
    split at h
    case h_2 => cases h
    rename_i off n g hf
    split at h
    case h_2 => cases h
    rename_i v hv
    split at h
    case h_2 => cases h
    rename_i new hn
    rcases ble_of h with ⟨hb, h'⟩ | ⟨_, h'⟩
    case inr => cases h'
    split at h'
    case h_2 => cases h'
    rename_i cs1 hs
    have hnew := cellsOf_spec R hn (ev_spec R hv)
    obtain ⟨h1, h2⟩ := spliceC_spec hs hc hnew
    have hl := CRs.len hnew
    have hb := Nat.eq_of_beq_eq_true hb
    obtain ⟨cells1, he, ht⟩ := fill_step places cells i (a.eval x) (rest.map fun p => (p.1, a.eval p.2)) (hp i _ hf) (by rw [Array.length_toList] at hl; show _ = n; omega) (by simp only [Array.length_toList] at h1; exact h1)
    rw [Array.length_toList] at h2
    rw [← ht] at h2
    obtain ⟨cells', h3, h4⟩ := buildC_spec R hp h' h2
    exact ⟨cells', by rw [List.map_cons, he, h3], h4⟩

theorem goes_build (R : RelS fr σ s a w) (H : TIs fr.P G) {t : TypeId} {parts : Array (Nat × Operand)} (ho : o.op = .build t parts) {τ : Ty} (ht : (tiOf G t).ty = some τ) (hg : (tiOf G t).agg = true)
    (h : (∃ cs, opK.buildC s (tiOf G t).fields (zeroC τ) parts.toList = some cs ∧ K (.agg cs) s = some r) ∨ (∃ n u, τ = .arr n u ∧ parts.isEmpty = true ∧ K (.av n u (List.replicate n u.zero)) s = some r)) : Goes fr o a w K r := by
  obtain ⟨f, d, z, hf, hd, _, _, hz, hZ, hk⟩ := (H t τ ht).ex
  have run : ∀ cells, fr.P.built t (parts.toList.map fun p => (p.1, a.eval p.2)) = some cells → (execOp a.eval o).run fr.P w = .ok (.value (.agg cells)) w := fun cells hc => by
    have := run_build (P := fr.P) w t (parts.map fun p => (p.1, a.eval p.2)) cells (by simpa using hc)
    simp [execOp, ho, this]
  have hfs : ∀ fs, d = .struct fs → ∃ places, fs.toList.mapM (fun f => (fr.P.info? f.type).map fun i => (f.offset, i.size)) = some places ∧ ∀ (i : Nat) (x : Nat × Nat × Bool), (tiOf G t).fields[i]? = some x → places.toArray[i]? = some (x.1, x.2.1) := by
    rintro fs rfl
    simp only [descB, Bool.and_eq_true] at hk
    obtain ⟨hl, hfo⟩ := fieldsB_spec hk.2
    have key : ∀ (l : List (Nat × Nat × Bool)) (fs : List Field), l.length = fs.length → (∀ (j : Nat) (x : Nat × Nat × Bool), l[j]? = some x → ∃ f, fs[j]? = some f ∧ FieldOk fr.P τ.size x f) → fs.mapM (fun f => (fr.P.info? f.type).map fun i => (f.offset, i.size)) = some (l.map fun x => (x.1, x.2.1)) := fun l => by
      induction l with
      | nil => intro fs hl _; cases fs with
        | nil => rfl
        | cons _ _ => cases hl
      | cons x l ih =>
        intro fs hl hf
        cases fs with
        | nil => cases hl
        | cons f fs =>
          obtain ⟨f', hf', hok⟩ := hf 0 x rfl
          simp at hf'
          subst hf'
          obtain ⟨i, _, hi, _, h1, h2, _⟩ := hok.ex
          have := ih fs (by simpa using hl) (fun j x hj => by simpa using hf (j + 1) x (by simpa using hj))
          simp [hi, this, h1, h2]
    refine ⟨_, key _ _ hl hfo, fun i x hx => ?_⟩
    simp [hx]
  rcases h with ⟨cs, hc, hK⟩ | ⟨n, u, rfl, he, hK⟩
  · cases d <;> simp only [descB, hg, Bool.not_true, Bool.and_false, Bool.false_and, Bool.false_eq_true] at hk
    · rename_i m e
      simp only [Bool.and_eq_true, List.isEmpty_iff] at hk
      obtain ⟨⟨⟨hk1, _⟩, hk2⟩, _⟩ := hk
      have hp : parts.toList = [] := by
        cases hpl : parts.toList with
        | nil => rfl
        | cons p rest =>
          obtain ⟨i, x⟩ := p
          rw [hpl, hk2] at hc
          simp [opK.buildC] at hc
      rw [hp] at hc run
      simp only [opK.buildC] at hc
      cases hc
      cases he : fr.P.info? e with
      | none => split at hk1 <;> simp_all
      | some j =>
        refine Goes.val (run z.cells ?_) hK R ⟨z.cells, rfl, hZ.crs fr σ s.T w⟩
        simp [Program.built, hf, hd, hz, he, Instr.fill]
    · rename_i fs
      obtain ⟨places, hp1, hp2⟩ := hfs fs rfl
      obtain ⟨cells, h1, h2⟩ := buildC_spec R (places := (places.toArray[·]?)) hp2 hc (hZ.crs fr σ s.T w)
      refine Goes.val (run cells ?_) hK R ⟨cells, rfl, h2⟩
      simp only [Program.built, hf, hd, hz, hp1]
      exact h1
  · have hp : parts.toList = [] := by simpa [Array.isEmpty_iff] using he
    rw [hp] at run
    refine Goes.val (run z.cells ?_) hK R ⟨z.cells, rfl, hZ.kf w _⟩
    cases d <;> simp only [descB, hg, Bool.not_true, Bool.and_false, Bool.false_and, Bool.false_eq_true] at hk
    · rename_i m e
      simp only [Bool.and_eq_true, List.isEmpty_iff] at hk
      obtain ⟨⟨⟨hk1, _⟩, hk2⟩, _⟩ := hk
      cases he : fr.P.info? e with
      | none => simp [he] at hk1
      | some j => simp [Program.built, hf, hd, hz, he, Instr.fill]
    · rename_i fs
      obtain ⟨places, hp1, _⟩ := hfs fs rfl
      simp only [Program.built, hf, hd, hz, hp1]
      rfl
end
end Go.Proofs.YtkadllkeekoopaaGreat.Abs
end

section
namespace Go.Proofs.YtkadllkeekoopaaGreat.Abs
open Go.RowKit

section
variable {ρ : Type} {G : Ctx} {fr : Fr} {σ : Nat → Value} {s : St} {a : Act} {w : World} {o : Oper} {K : V → St → Option ρ} {r : ρ}

/-! ## What freezing does to the blocks -/
theorem freeze_foot (R : RelS fr σ s a w) {id : Nat} {s' : St} (h : freeze id s = some s') :
    (∀ al b, Foot fr σ s.T w al b → Foot fr σ s'.T w al b) ∧ (∀ b, blk (σ id) = some b → Foot fr σ s'.T w false b) ∧ ∀ i o, i ≠ id → get s.T i = some o → ∃ o', get s'.T i = some o' := by
  unfold Go.Proofs.YtkadllkeekoopaaGreat.Abs.freeze at h
  split at h
  case h_2 => cases h
  rename_i e al t xs ho
  cases h
  have hr := R.objs id _ ho
  have hget : ∀ i, get (mapT (freezeC id al t xs) (del s.T id)) i = if id = i then none else (get s.T i).map (mapO (freezeC id al t xs)) := fun i => by
    rw [get_mapT, get_del]
    by_cases e : id = i <;> simp [e]
  have hown : ∀ b, Own σ (mapT (freezeC id al t xs) (del s.T id)) b → Own σ s.T b ∧ blk (σ id) ≠ some b := by
    rintro b ⟨i, o1, hi, hbl⟩
    rw [hget] at hi
    by_cases e : id = i
    · rw [if_pos e] at hi; cases hi
    · rw [if_neg e] at hi
      cases hi' : get s.T i with
      | none => rw [hi'] at hi; cases hi
      | some o2 => exact ⟨⟨i, o2, hi', hbl⟩, R.dist i o2 id _ hi' ho (Ne.symm e) b hbl⟩
  refine ⟨fun al' b hf => ⟨hf.1, fun hw => hf.2.1 (hown b hw).1, hf.2.2⟩, fun b hb => ⟨(hr.lt b hb).2, fun hw => (hown b hw).2 hb, .inl (hr.lt b hb).1⟩, fun i o hi hT => ?_⟩
  exact ⟨_, by show get (mapT (freezeC id al t xs) (del s.T id)) i = _; rw [hget, if_neg (Ne.symm hi), hT]; rfl⟩
theorem freezeAll_foot : ∀ {ids : List Nat} {s s' : St}, RelS fr σ s a w → freezeAll ids s = some s' →
    (∀ al b, Foot fr σ s.T w al b → Foot fr σ s'.T w al b) ∧ ∀ id ∈ ids, ∀ o, get s.T id = some o → ∀ b, blk (σ id) = some b → Foot fr σ s'.T w false b
  | [], s, s', _, h => by
    cases h
    exact ⟨fun _ _ h => h, fun _ hm => by cases hm⟩
  | i :: ids, s, s', R, h => by
    simp only [Go.Proofs.YtkadllkeekoopaaGreat.Abs.freezeAll] at h
    split at h
    · rename_i hn
      obtain ⟨h1, h2⟩ := freezeAll_foot R h
      refine ⟨h1, fun id hm o ho => ?_⟩
      cases hm with
      | head => rw [hn] at ho; cases ho
      | tail _ hm => exact h2 id hm o ho
    · split at h
      case h_2 => cases h
      rename_i s1 hs
      have R1 := R.freeze hs
      obtain ⟨h1, h2⟩ := freezeAll_foot R1 h
      obtain ⟨f1, f2, f3⟩ := freeze_foot R hs
      refine ⟨fun al b hf => h1 al b (f1 al b hf), fun id hm o ho b hb => ?_⟩
      by_cases e : id = i
      · subst e
        exact h1 false b (f2 b hb)
      · cases hm with
        | head => exact absurd rfl e
        | tail _ hm =>
          obtain ⟨o', ho'⟩ := f3 id o e ho
          exact h2 id hm o' ho' b hb
/-- What cells lead to is only read once their rows are frozen. -/
theorem reach_frozen (R : RelS fr σ s a w) {ids : List Nat} {s' : St} (h : freezeAll ids s = some s') {cs : List C} (hs : ∀ i ∈ idsOf cs, i ∈ ids) {al : Bool} (hal : alOf s.T cs = true → al = true) {b : Nat} (hb : Reach fr σ s.T w cs b) : Foot fr σ s'.T w al b := by
  obtain ⟨h1, h2⟩ := freezeAll_foot R h
  rcases hb with hb | ⟨i, hi, o', ho, hb⟩
  · exact Foot.up hal (h1 _ b hb)
  · exact Foot.up (by simp) (h2 i (hs i hi) o' ho b hb)
theorem KF.noSl {w w' : World} {F F' : Nat → Prop} : ∀ (t : Ty) (x : t.den) (cs : List Value), t.hasSl = false → KF w F t x cs → KF w' F' t x cs
  | .int _, _, _, _, h => h
  | .bool, _, _, _, h => h
  | .str, _, _, _, h => h
  | .unit, _, _, _, h => h
  | .sl _, _, _, hs, _ => by cases hs
  | .arr _ t, _, _, hs, ⟨h1, h2, h3⟩ => ⟨h1, h2, fun i x hi => KF.noSl t x _ hs (h3 i x hi)⟩
  | .pair a b, _, _, hs, ⟨c0, c1, h, h0, h1⟩ => by
    simp only [Ty.hasSl, Bool.or_eq_false_iff] at hs
    exact ⟨c0, c1, h, KF.noSl a _ _ hs.1 h0, KF.noSl b _ _ hs.2 h1⟩

/-! ## Stores -/
theorem RelS.setMv (R : RelS fr σ s a w) {id : Nat} {ob ob' : Obj} (ho : get s.T id = some ob) (hz : okind ob' = okind ob) {w' : World} (hg : w.grownBy w' (blk (σ id))) :
    Mv fr fr σ s.T w σ (setO id ob' s).T w' _root_.id (fun _ => true) _root_.id := by
  have hget : ∀ i, get (setO id ob' s).T i = if id = i then some ob' else get s.T i := fun i => by
    simp only [setO, get_cons, get_del]
    by_cases e : id = i <;> simp [e]
  have hown : ∀ b, Own σ (setO id ob' s).T b → Own σ s.T b := by
    rintro b ⟨i, o1, hi, hbl⟩
    rw [hget] at hi
    by_cases e : id = i
    · exact ⟨id, ob, ho, e ▸ hbl⟩
    · rw [if_neg e] at hi
      exact ⟨i, o1, hi, hbl⟩
  have _ := R
  exact .plain
    (fun al b h => ⟨⟨Nat.lt_of_lt_of_le h.1 hg.size, fun hw => h.2.1 (hown b hw), h.2.2⟩, hg.block b h.1 (fun e => h.2.1 ⟨id, ob, ho, e.symm⟩)⟩)
    (fun i o1 hi => by
      rw [hget]
      by_cases e : id = i
      · subst e
        rw [ho] at hi
        cases hi
        exact ⟨ob', by simp, rfl, hz⟩
      · exact ⟨o1, by rw [if_neg e]; exact hi, rfl, rfl⟩)
theorem setRow_grown (w : World) (g : Nat) (cs : Array Value) : w.grownBy (w.setRow g cs) (some g) :=
  ⟨rfl, rfl, rfl, by simp, fun k _ hk => setRow_other w g k cs (fun e => hk (by rw [e]))⟩
theorem run_storeVar_at {P : Program} {t : TypeId} {i : TI} {τ : Ty} (H : TyOk P t i τ) {g off : Nat} {ty : TypeId} {cur : Array Value} (hg : w.heap[g]? = some (.cells cur ty (0, 0))) {v : Value} (hl : v.cells.size = τ.size) (hf : off + v.cells.size ≤ cur.size) (h1 : ∀ u ∈ v.cells.toList, u.oneCell' = true) :
    (storeVar t ⟨g, off, none⟩ v).run P w = .ok () (w.setRow g (cur.toList.take off ++ v.cells.toList ++ cur.toList.drop (off + v.cells.size)).toArray) := by
  obtain ⟨f, hf', hz⟩ := H.info
  have := run_storeCells_at P g off ty v.cells.toList 0 cur w hg (by simpa using hf) h1
  simp only [Nat.add_zero, Array.length_toList] at this
  simp [storeVar, sizeOf, typeInfo, hf', hz, hl] at this ⊢
  exact this

theorem setEl_spec (R : RelS fr σ s a w) {al : Bool} {t : Ty} {xs xs' : List t.den} {al' : Bool} {i off : Nat} {new : List C} (h : setEl s.T al t xs i off new = some (xs', al')) {vs us : List Value} (hk : KF w (Foot fr σ s.T w al) t (xs.getD i t.zero) vs) (hu : CRs fr σ s.T w new us) :
    (al = true → al' = true) ∧ off + us.length ≤ vs.length ∧ ∃ x, xs' = xs.set i x ∧ KF w (Foot fr σ s.T w al') t x (vs.take off ++ us ++ vs.drop (off + us.length)) := by
  unfold setEl at h
  rcases ble_of h with ⟨_, h'⟩ | ⟨he, h'⟩
  · cases h'
  · split at h'
    case h_2 => cases h'
    rename_i cs hs
    split at h'
    case h_2 => cases h'
    rename_i x hx
    cases h'
    obtain ⟨h1, h2⟩ := spliceC_spec hs (CRs.flat t _ _ hk) hu
    obtain ⟨_, v1, v2, hv, hk1, hv2⟩ := unflat_spec R t cs x [] hx _ h2
    have : v2 = [] := by
      cases v2 with
      | nil => rfl
      | cons _ _ => exact hv2.elim
    subst this
    rw [List.append_nil] at hv
    refine ⟨fun h => by simp [h], h1, x, rfl, ?_⟩
    rw [hv]
    cases hsl : t.hasSl with
    | false => exact KF.noSl t x v1 hsl hk1
    | true =>
      refine KF.imp (fun b hb => ⟨?_, rfl⟩) t x v1 hk1
      have hidf : ∀ (t : Ty) (x : t.den), idsOf (flat al t x) = [] ∧ (alOf s.T (flat al t x) = true → al = true) := by
        have app : ∀ cs ds : List C, idsOf cs = [] ∧ (alOf s.T cs = true → al = true) → idsOf ds = [] ∧ (alOf s.T ds = true → al = true) → idsOf (cs ++ ds) = [] ∧ (alOf s.T (cs ++ ds) = true → al = true) := fun cs => by
          induction cs with
          | nil => intro ds _ h; exact h
          | cons c cs ih =>
            intro ds hc hd
            cases c with
            | own id => simp [idsOf] at hc
            | view id _ _ => simp [idsOf] at hc
            | sl al0 _ _ =>
              simp only [idsOf, alOf, Bool.or_eq_true, List.cons_append] at hc ⊢
              have := ih ds ⟨hc.1, fun h => hc.2 (.inr h)⟩ hd
              exact ⟨this.1, fun h => h.elim (fun h => hc.2 (.inl h)) this.2⟩
            | _ => exact ih ds hc hd
        intro t
        induction t with
        | int _ => intro _; exact ⟨rfl, fun h => by cases h⟩
        | bool => intro _; exact ⟨rfl, fun h => by cases h⟩
        | str => intro _; exact ⟨rfl, fun h => by cases h⟩
        | unit => intro _; exact ⟨rfl, fun h => by cases h⟩
        | sl t _ => intro x; exact ⟨rfl, fun h => by simpa [flat, alOf] using h⟩
        | arr n t ih =>
          intro xs
          have : ∀ l : List Nat, idsOf (l.flatMap fun i => flat al t (List.getD xs i t.zero)) = [] ∧ (alOf s.T (l.flatMap fun i => flat al t (List.getD xs i t.zero)) = true → al = true) := fun l => by
            induction l with
            | nil => exact ⟨rfl, fun h => by cases h⟩
            | cons i l ih2 =>
              rw [List.flatMap_cons]
              exact app _ _ (ih _) ih2
          exact this _
        | pair p q ihp ihq => intro x; exact app _ _ (ihp _) (ihq _)
      have app2 : ∀ cs ds : List C, (∀ i ∈ idsOf (cs ++ ds), i ∈ idsOf cs ∨ i ∈ idsOf ds) ∧ (alOf s.T (cs ++ ds) = true → alOf s.T cs = true ∨ alOf s.T ds = true) := fun cs => by
        induction cs with
        | nil => intro ds; exact ⟨fun i h => .inr h, fun h => .inr h⟩
        | cons c cs ih =>
          intro ds
          obtain ⟨i1, i2⟩ := ih ds
          cases c <;> simp only [idsOf, alOf, List.cons_append, Bool.or_eq_true, List.mem_cons] <;>
            first
              | exact ⟨i1, i2⟩
              | exact ⟨i1, fun h => h.elim (fun h => .inl (.inl h)) fun h => (i2 h).imp .inr id⟩
              | exact ⟨fun i h => h.elim (fun h => .inl (.inl h)) fun h => (i1 i h).imp .inr id, fun h => h.elim (fun h => .inl (.inl h)) fun h => (i2 h).imp .inr id⟩
      have sub : ∀ cs : List C, ∀ n, (∀ i ∈ idsOf (cs.take n), i ∈ idsOf cs) ∧ (alOf s.T (cs.take n) = true → alOf s.T cs = true) ∧ (∀ i ∈ idsOf (cs.drop n), i ∈ idsOf cs) ∧ (alOf s.T (cs.drop n) = true → alOf s.T cs = true) := fun cs => by
        induction cs with
        | nil => intro n; simp [idsOf, alOf]
        | cons c cs ih =>
          intro n
          cases n with
          | zero => exact ⟨fun i h => by simp [idsOf] at h, fun h => by simp [alOf] at h, fun i h => h, fun h => h⟩
          | succ n =>
            obtain ⟨i1, i2, i3, i4⟩ := ih n
            cases c <;> simp only [List.take_succ_cons, List.drop_succ_cons, idsOf, alOf, Bool.or_eq_true, List.mem_cons] <;>
              first
                | exact ⟨i1, i2, i3, i4⟩
                | exact ⟨i1, fun h => h.imp id i2, i3, fun h => .inr (i4 h)⟩
                | exact ⟨fun i h => h.imp id (i1 i), fun h => h.imp id i2, fun i h => .inr (i3 i h), fun h => .inr (i4 h)⟩
      have hcs : ∃ p q, cs = (p ++ new) ++ q ∧ (idsOf p = [] ∧ (alOf s.T p = true → al = true)) ∧ (idsOf q = [] ∧ (alOf s.T q = true → al = true)) := by
        unfold spliceC at hs
        rcases ble_of hs with ⟨_, hs'⟩ | ⟨_, hs'⟩
        · cases hs'
          refine ⟨_, _, rfl, ?_, ?_⟩
          · obtain ⟨s1, s2, _, _⟩ := sub (flat al t (xs.getD i t.zero)) off
            refine ⟨List.eq_nil_iff_forall_not_mem.2 fun j hj => ?_, fun h => (hidf t _).2 (s2 h)⟩
            have := s1 j hj
            rw [(hidf t _).1] at this
            cases this
          · obtain ⟨_, _, s3, s4⟩ := sub (flat al t (xs.getD i t.zero)) (off + new.length)
            refine ⟨List.eq_nil_iff_forall_not_mem.2 fun j hj => ?_, fun h => (hidf t _).2 (s4 h)⟩
            have := s3 j hj
            rw [(hidf t _).1] at this
            cases this
        · cases hs'
      obtain ⟨p, q, rfl, hp, hq⟩ := hcs
      have hnew : idsOf new = [] := by simpa using he
      rcases hb with hb | ⟨j, hj, _⟩
      · refine Foot.up (fun h => ?_) hb
        rcases (app2 _ _).2 h with h | h
        · rcases (app2 _ _).2 h with h | h
          · simp [hp.2 h]
          · simp [h]
        · simp [hq.2 h]
      · exfalso
        rcases (app2 _ _).1 j hj with hj | hj
        · rcases (app2 _ _).1 j hj with hj | hj
          · rw [hp.1] at hj; cases hj
          · rw [hnew] at hj; cases hj
        · rw [hq.1] at hj; cases hj
end
end Go.Proofs.YtkadllkeekoopaaGreat.Abs
end

section
namespace Go.Proofs.YtkadllkeekoopaaGreat.Abs
open Go.RowKit

theorem seg_get {α : Type} (l us : List α) (k p : Nat) (hk : k + us.length ≤ l.length) : (l.take k ++ us ++ l.drop (k + us.length))[p]? = if p < k then l[p]? else if p < k + us.length then us[p - k]? else l[p]? := by
  have h1 : (l.take k).length = k := by rw [List.length_take]; omega
  rw [List.append_assoc]
  by_cases hp : p < k
  · rw [List.getElem?_append_left (by omega), List.getElem?_take, if_pos hp, if_pos hp]
  · rw [List.getElem?_append_right (by omega), h1, if_neg hp]
    by_cases hp2 : p < k + us.length
    · rw [List.getElem?_append_left (by omega), if_pos hp2]
    · rw [List.getElem?_append_right (by omega), if_neg hp2, List.getElem?_drop]
      congr 1
      omega
theorem seg_at {α : Type} (l us : List α) (z i off : Nat) (hz : off + us.length ≤ z) (hi : (i + 1) * z ≤ l.length) :
    (((l.take (i * z + off) ++ us ++ l.drop (i * z + off + us.length)).drop (i * z)).take z) = ((l.drop (i * z)).take z).take off ++ us ++ ((l.drop (i * z)).take z).drop (off + us.length) := by
  rw [Nat.add_mul, Nat.one_mul] at hi
  apply List.ext_getElem?
  intro p
  have hl2 : ((l.drop (i * z)).take z).length = z := by rw [List.length_take, List.length_drop]; omega
  rw [seg_get _ us off p (by omega), List.getElem?_take]
  by_cases hp : p < z
  · rw [if_pos hp, List.getElem?_drop, seg_get l us (i * z + off) _ (by omega), List.getElem?_take, if_pos hp, List.getElem?_drop]
    by_cases h1 : p < off
    · rw [if_pos h1, if_pos (by omega)]
    · rw [if_neg h1, if_neg (by omega)]
      by_cases h2 : p < off + us.length
      · rw [if_pos h2, if_pos (by omega)]
        congr 1
        omega
      · rw [if_neg h2, if_neg (by omega)]
  · rw [if_neg hp, if_neg (by omega), if_neg (by omega), List.getElem?_take, if_neg hp]
theorem seg_off {α : Type} (l us : List α) (z i j off : Nat) (hz : off + us.length ≤ z) (hi : (i + 1) * z ≤ l.length) (hne : j ≠ i) :
    (((l.take (i * z + off) ++ us ++ l.drop (i * z + off + us.length)).drop (j * z)).take z) = (l.drop (j * z)).take z := by
  rw [Nat.add_mul, Nat.one_mul] at hi
  apply List.ext_getElem?
  intro p
  rw [List.getElem?_take, List.getElem?_take]
  by_cases hp : p < z
  · rw [if_pos hp, if_pos hp, List.getElem?_drop, List.getElem?_drop, seg_get l us (i * z + off) _ (by omega)]
    rcases Nat.lt_or_gt_of_ne hne with h | h
    · have : (j + 1) * z ≤ i * z := Nat.mul_le_mul_right _ h
      rw [Nat.add_mul, Nat.one_mul] at this
      rw [if_pos (by omega)]
    · have : (i + 1) * z ≤ j * z := Nat.mul_le_mul_right _ h
      rw [Nat.add_mul, Nat.one_mul] at this
      rw [if_neg (by omega), if_neg (by omega)]
  · rw [if_neg hp, if_neg hp]

section
variable {ρ : Type} {G : Ctx} {fr : Fr} {σ : Nat → Value} {s : St} {a : Act} {w : World} {o : Oper} {K : V → St → Option ρ} {r : ρ}

theorem storeAt_spec (R : RelS fr σ s a w) {t : TypeId} {i0 : TI} {τ : Ty} (H : TyOk fr.P t i0 τ) {ad : V} {u v : Value} {new : List C} {s' : St} (h : storeAt s ad new = some s') (hu : VR fr σ s.T w ad u) (hv : CRs fr σ s.T w new v.cells.toList) (hl : new.length = τ.size) :
    ∃ A w', u = .pointer (some A) ∧ (storeVar t A v).run fr.P w = .ok () w' ∧ RelS fr σ s' a w' := by
  have hvl := CRs.len hv
  have hvs : v.cells.size = τ.size := by rw [← hl, ← hvl, Array.length_toList]
  have h1 := CRs.one R hv
  unfold storeAt at h
  split at h
  · rename_i id off
    split at h
    case h_2 => cases h
    rename_i ty cs hT
    split at h
    case h_2 => cases h
    rename_i cs' hs
    cases h
    obtain ⟨o1, a0, ho1, ha, hsp, rfl⟩ := hu
    obtain ⟨g, arr, hσ, hg0, hh, hc⟩ := R.objs id _ hT
    rw [hσ] at ha
    simp [addr] at ha
    subst ha
    obtain ⟨hb, hc'⟩ := spliceC_spec hs hc hv
    rw [Array.length_toList, Array.length_toList] at hb
    refine ⟨_, _, rfl, run_storeVar_at H (off := 0 + off) hh hvs (by omega) h1, ?_⟩
    have hgr : w.grownBy (w.setRow g (arr.toList.take (0 + off) ++ v.cells.toList ++ arr.toList.drop (0 + off + v.cells.size)).toArray) (blk (σ id)) := by
      rw [hσ]; exact setRow_grown w g _
    refine R.set (o' := .box ty cs') hT rfl hgr ⟨g, _, hσ, hg0, setRow_heap w g arr _ ty (0, 0) hh, ?_⟩
    have := (R.setMv (ob' := .box ty cs') hT rfl hgr).crs' hc'
    simpa using this
  · rename_i id i off
    obtain ⟨o1, a0, ho1, hi, ha, hsp, rfl⟩ := hu
    split at h
    · rename_i e al t' xs hT
      rw [ho1] at hT
      cases hT
      split at h
      case h_2 => cases h
      rename_i xs' al' hset
      cases h
      have hi : i < xs.length := hi
      obtain ⟨inner, ho, hnw, hx⟩ := R.objs id _ ho1
      have hlen := ho.1
      rcases ho.2 with ⟨hval, _⟩ | ⟨g, cap, cur, hval, hg0, hh, hnc, hcm, hcs, htake⟩
      · rw [hval] at ha; cases ha
      rw [hval] at ha
      simp [addr] at ha
      subst ha
      have hk := hx i (xs.getD i t'.zero) (by rw [List.getElem?_eq_getElem hi]; simp [List.getD, hi])
      obtain ⟨hal, hle, x, rfl, hkx⟩ := setEl_spec R hset hk hv
      have hvl2 := KF.len _ _ _ hk
      have hi1 : (i + 1) * t'.size ≤ inner.length := by rw [hlen]; exact Nat.mul_le_mul_right _ hi
      have hi2 : xs.length * t'.size ≤ cap * t'.size := Nat.mul_le_mul_right _ hnc
      have hi3 := hi1
      rw [Nat.add_mul, Nat.one_mul] at hi3
      rw [Array.length_toList] at hle
      refine ⟨_, _, rfl, run_storeVar_at H (off := 0 + (i * t'.size + off)) hh hvs (by omega) h1, ?_⟩
      have hgr : w.grownBy (w.setRow g (cur.toList.take (0 + (i * t'.size + off)) ++ v.cells.toList ++ cur.toList.drop (0 + (i * t'.size + off) + v.cells.size)).toArray) (blk (σ id)) := by
        rw [hval]; exact setRow_grown w g _
      have hz : okind (Go.Proofs.YtkadllkeekoopaaGreat.Abs.Obj.row e al' t' (xs.set i x)) = okind (Go.Proofs.YtkadllkeekoopaaGreat.Abs.Obj.row e al t' xs) := by simp [okind]
      have hm := R.setMv ho1 hz hgr
      have hin : (cur.toList.take (0 + (i * t'.size + off)) ++ v.cells.toList ++ cur.toList.drop (0 + (i * t'.size + off) + v.cells.size)).take (xs.length * t'.size) = inner.take (i * t'.size + off) ++ v.cells.toList ++ inner.drop (i * t'.size + off + v.cells.toList.length) := by
        apply List.ext_getElem?
        intro p
        rw [Nat.zero_add, ← Array.length_toList (xs := v.cells), List.getElem?_take, seg_get _ _ _ _ (by simp only [Array.length_toList]; omega), seg_get _ _ _ _ (by simp only [Array.length_toList]; omega), ← htake, List.getElem?_take]
        simp only [Array.length_toList]
        by_cases h1 : p < xs.length * t'.size
        · simp only [if_pos h1]
        · rw [if_neg h1, if_neg (by omega), if_neg (by omega), if_neg h1]
      refine R.set ho1 hz hgr ⟨inner.take (i * t'.size + off) ++ v.cells.toList ++ inner.drop (i * t'.size + off + v.cells.toList.length), ⟨?_, .inr ⟨g, cap, _, ?_, hg0, setRow_heap w g cur _ e (0, 0) hh, ?_, hcm, ?_, ?_⟩⟩, hnw, fun j y hj => ?_⟩
      · rw [List.length_set, ← hlen]
        simp only [List.length_append, List.length_take, List.length_drop, Array.length_toList]
        omega
      · rw [hval, List.length_set]
      · rw [List.length_set]; exact hnc
      · simp only [List.size_toArray, List.length_append, List.length_take, List.length_drop, Array.length_toList]
        omega
      · rw [List.length_set]; exact hin
      · by_cases hji : j = i
        · subst hji
          have hy : y = x := by
            have := hj
            rw [List.getElem?_set_self hi] at this
            cases this; rfl
          subst hy
          rw [seg_at _ _ _ _ _ (by rw [Array.length_toList]; omega) hi1]
          exact KF.imp (fun b hb => hm.foot al' b hb) t' y _ hkx
        · rw [seg_off _ _ _ _ _ _ (by rw [Array.length_toList]; omega) hi1 hji]
          have hj' : xs[j]? = some y := by
            rw [List.getElem?_set_ne (Ne.symm hji)] at hj
            exact hj
          exact KF.imp (fun b hb => hm.foot al' b (Foot.up hal hb)) t' y _ (hx j y hj')
    · rename_i hT
      exact (R.objs id _ hT).elim
    · rename_i ty n t' xs hT
      rw [ho1] at hT
      cases hT
      rcases ble_of h with ⟨_, h'⟩ | ⟨hsl, h'⟩
      · cases h'
      split at h'
      case h_2 => cases h'
      rename_i xs' al' hset
      cases h'
      obtain ⟨g, arr, hσ, hg0, hh, hc⟩ := R.objs id _ ho1
      have hi : i < xs.length := by rw [hc.1]; exact hi
      rw [hσ] at ha
      simp [addr] at ha
      subst ha
      have hk := hc.2.2 i (xs.getD i t'.zero) (by rw [List.getElem?_eq_getElem hi]; simp [List.getD, hi])
      obtain ⟨_, hle, x, rfl, hkx⟩ := setEl_spec R hset (KF.imp (fun b hb => hb.elim) t' _ _ hk) hv
      have hvl2 := KF.len _ _ _ hk
      have hlen := hc.2.1
      have hi1 : (i + 1) * t'.size ≤ arr.toList.length := by rw [hlen, ← hc.1]; exact Nat.mul_le_mul_right _ hi
      have hi3 := hi1
      rw [Nat.add_mul, Nat.one_mul] at hi3
      rw [Array.length_toList] at hle
      rw [Array.length_toList] at hi3 hlen
      refine ⟨_, _, rfl, run_storeVar_at H (off := 0 + (i * t'.size + off)) hh hvs (by omega) h1, ?_⟩
      have hgr : w.grownBy (w.setRow g (arr.toList.take (0 + (i * t'.size + off)) ++ v.cells.toList ++ arr.toList.drop (0 + (i * t'.size + off) + v.cells.size)).toArray) (blk (σ id)) := by
        rw [hσ]; exact setRow_grown w g _
      refine R.set (o' := .arr ty n t' (xs.set i x)) ho1 rfl hgr ⟨g, _, hσ, hg0, setRow_heap w g arr _ ty (0, 0) hh, ?_⟩
      rw [Nat.zero_add, ← Array.length_toList (xs := v.cells)]
      refine ⟨by rw [List.length_set]; exact hc.1, ?_, fun j y hj => ?_⟩
      · rw [← hlen]
        simp only [List.length_append, List.length_take, List.length_drop, Array.length_toList]
        omega
      · by_cases hji : j = i
        · subst hji
          have hy : y = x := by
            have := hj
            rw [List.getElem?_set_self hi] at this
            cases this; rfl
          subst hy
          rw [seg_at _ _ _ _ _ (by rw [Array.length_toList]; omega) hi1]
          exact KF.noSl t' y _ hsl hkx
        · rw [seg_off _ _ _ _ _ _ (by rw [Array.length_toList]; omega) hi1 hji]
          have hj' : xs[j]? = some y := by
            rw [List.getElem?_set_ne (Ne.symm hji)] at hj
            exact hj
          exact KF.noSl t' y _ hsl (hc.2.2 j y hj')
    · cases h
  · cases h

theorem goes_store (R : RelS fr σ s a w) (H : TIs fr.P G) {t : TypeId} {x y : Operand} (ho : o.op = .store t x y) {τ : Ty} (ht : (tiOf G t).ty = some τ) {ids : List Nat} {s1 : St} (hf : freezeAll ids s = some s1) {v1 ad1 : V} (hy : ev s1 y = some v1) {cs1 : List C} (hc : cellsOf v1 = some cs1) (hl : cs1.length = τ.size) (hx : ev s1 x = some ad1) {s2 : St} (hs : storeAt s1 ad1 cs1 = some s2) (hK : K .undef s2 = some r) : Goes fr o a w K r := by
  have R1 := R.freezeAll hf
  obtain ⟨A, w', hA, hr, R2⟩ := storeAt_spec R1 (H t τ ht) hs (ev_spec R1 hx) (cellsOf_spec R1 hc (ev_spec R1 hy)) hl
  refine Goes.skip ?_ hK R2
  simp [execOp, ho, Instr.storeAt, hA, Instr.sureAddr, hr]
theorem goes_store_arr (R : RelS fr σ s a w) (H : TIs fr.P G) {t : TypeId} {x y : Operand} (ho : o.op = .store t x y) {τ : Ty} (ht : (tiOf G t).ty = some τ) {n : Nat} {u : Ty} {xs ys : List u.den} {id : Nat} {tt : TypeId} (hx : ev s x = some (.pt id 0)) (hy : ev s y = some (.av n u xs)) (hT : get s.T id = some (.arr tt n u ys)) (hz : τ.size = n * u.size) (h1 : u.hasSl = false) (hK : K .undef (setO id (.arr tt n u xs) s) = some r) : Goes fr o a w K r := by
  obtain ⟨arr, hv, hk⟩ := ev_spec R hy
  obtain ⟨o1, a0, ho1, ha, hsp, hu⟩ := ev_spec R hx
  obtain ⟨g, cur, hσ, hg0, hh, hc⟩ := R.objs id _ hT
  rw [hσ] at ha
  simp [addr] at ha
  subst ha
  have l1 := hk.2.1
  have l2 := hc.2.1
  rw [Array.length_toList] at l1 l2
  have one : ∀ (t : Ty) (x : t.den) (cs : List Value), t.hasSl = false → KF w (fun _ => False) t x cs → ∀ u ∈ cs, u.oneCell' = true := fun t x cs hs hk => by
    have h2 : KF w (Foot fr σ s.T w false) t x cs := KF.noSl t x cs hs hk
    exact CRs.one R (CRs.flat t x cs h2)
  have hone := one (.arr n u) xs arr.toList h1 hk
  have hr := run_storeVar_at (w := w) (H t τ ht) (off := 0 + 0) hh (v := .agg arr) (by show arr.size = _; omega) (by show 0 + 0 + arr.size ≤ _; omega) hone
  refine Goes.skip (σ' := σ) ?_ hK (R.set (o' := .arr tt n u xs) (w' := w.setRow g (cur.toList.take (0 + 0) ++ (Value.agg arr).cells.toList ++ cur.toList.drop (0 + 0 + (Value.agg arr).cells.size)).toArray) hT rfl (by rw [hσ]; exact setRow_grown w g _) ⟨g, _, hσ, hg0, setRow_heap w g cur _ tt (0, 0) hh, ?_⟩)
  · simp only [execOp, ho, Instr.storeAt, hu, hv, Instr.sureAddr, Sem.run_bind, Sem.run_pure, Result.andThen_ok, hr]
  · have e : (cur.toList.take (0 + 0) ++ (Value.agg arr).cells.toList ++ cur.toList.drop (0 + 0 + (Value.agg arr).cells.size)) = arr.toList := by
      have : cur.toList.drop (0 + 0 + (Value.agg arr).cells.size) = [] := List.drop_eq_nil_of_le (by rw [Array.length_toList]; show cur.size ≤ 0 + 0 + arr.size; omega)
      rw [this]
      simp [Value.cells]
    rw [e]
    exact KF.imp (fun b hb => hb.elim) (.arr n u) xs _ hk

/-! ## New rows -/
/-- A new row of elements that are only read. -/
theorem goes_newrow (R : RelS fr σ s a w) {d : Nat} {e : TypeId} {al : Bool} {t : Ty} {xs : List t.den} {s1 s2 : St} (R1 : RelS fr σ s1 a w) (hn : newO d (.row e al t xs) s1 = some s2) {cur : Array Value} {cap : Nat} (hcap : xs.length ≤ cap) (hm : cap ≤ maxLen) (hcs : cur.size = cap * t.size)
    (hk : ∀ (i : Nat) x, xs[i]? = some x → KF w (Foot fr σ s1.T w al) t x ((cur.toList.drop (i * t.size)).take t.size))
    (hr : (execOp a.eval o).run fr.P w = .ok (.value (.slice (some ⟨w.heap.size, 0, none⟩) xs.length cap)) (w.alloc (.cells cur e))) (hK : K (.c (.own d)) s2 = some r) : Goes fr o a w K r := by
  have _ := R
  have hv : ∀ b, blk (.slice (some ⟨w.heap.size, 0, none⟩) xs.length cap) = some b → w.heap.size ≤ b := fun b hb => by simp [blk] at hb; omega
  obtain ⟨hmv, hg⟩ := R1.newMv hn (below_alloc w (.cells cur e)) hv
  have hle : xs.length * t.size ≤ cap * t.size := Nat.mul_le_mul_right _ hcap
  have R' := R1.new hn (below_alloc w (.cells cur e)) hv ⟨cur.toList.take (xs.length * t.size), ⟨by have hcl : cur.toList.length = cur.size := Array.length_toList; rw [List.length_take]; omega, .inr ⟨w.heap.size, cap, cur, by rw [upd_same], Nat.zero_le _, heap_alloc_new w _, hcap, hm, hcs, rfl⟩⟩, fun b hb => by rw [upd_same] at hb; exact R1.kept.fresh b (hv b hb), fun i x hi => by
    have hk' := KF.imp (fun b hb => hmv.foot al b hb) t x _ (hk i x hi)
    have hlt : i < xs.length := (List.getElem?_eq_some_iff.1 hi).1
    have : (i + 1) * t.size ≤ xs.length * t.size := Nat.mul_le_mul_right _ hlt
    rw [Nat.add_mul, Nat.one_mul] at this
    have e : ((cur.toList.take (xs.length * t.size)).drop (i * t.size)).take t.size = (cur.toList.drop (i * t.size)).take t.size := by
      apply List.ext_getElem?
      intro p
      rw [List.getElem?_take, List.getElem?_take]
      by_cases hp : p < t.size
      · rw [if_pos hp, if_pos hp, List.getElem?_drop, List.getElem?_drop, List.getElem?_take, if_pos (by omega)]
      · rw [if_neg hp, if_neg hp]
    rw [e]
    exact hk'⟩
  exact Goes.val hr hK R' ⟨by rw [upd_same], _, hg⟩

theorem goes_makeSlice (R : RelS fr σ s a w) (H : TIs fr.P G) {d : Nat} {t : TypeId} {x y : Operand} (ho : o.op = .makeSlice t x y) {e : TypeId} {u : Ty} (hE : slE G t = some (e, u)) {n m : Int} (hx : evI s x = some n) (hy : evI s y = some m) (hb : (tiOf G e).bytes ≠ 0) (h : 0 ≤ n ∧ n ≤ m ∧ m * ((tiOf G e).bytes : Int) ≤ 281474976710656) {s' : St} (hn : newO d (.row e false u (List.replicate n.toNat u.zero)) s = some s') (hK : K (.c (.own d)) s' = some r) : Goes fr o a w K r := by
  obtain ⟨ht, hue⟩ := slE_of H hE
  obtain ⟨f, dd, z, hf, _, hs, hby, hz, hZ, _⟩ := hue.ex
  obtain ⟨k1, hx1⟩ := evI_spec R hx
  obtain ⟨k2, hy1⟩ := evI_spec R hy
  have hm63 : m ≤ 281474976710656 := by
    have h1 : (1 : Int) ≤ ((tiOf G e).bytes : Int) := by omega
    have h2 : m * 1 ≤ m * ((tiOf G e).bytes : Int) := Int.mul_le_mul_of_nonneg_left h1 (by omega)
    omega
  have hrun := run_make (P := fr.P) w t e f z ht hf hz k1 k2 n m h.1 h.2.1 (by rw [hby, Int.mul_comm]; exact h.2.2) (by omega)
  have hzl := KF.len u _ _ (hZ.kf w (fun _ => False))
  rw [hs] at hrun
  refine goes_newrow R R hn (cur := madeCells z.cells (m.toNat * u.size)) (cap := m.toNat) ?_ ?_ (size_madeCells _ _) ?_ ?_ hK
  · rw [List.length_replicate]; omega
  · simp only [maxLen]; omega
  · intro i q hi
    rw [List.getElem?_replicate] at hi
    split at hi
    case isFalse => cases hi
    rename_i hin
    cases hi
    have hk := hZ.kf w (Foot fr σ s.T w false)
    have e1 : ((madeCells z.cells (m.toNat * u.size)).toList.drop (i * u.size)).take u.size = z.cells.toList := by
      apply List.ext_getElem?
      intro p
      rw [List.getElem?_take]
      by_cases hp : p < u.size
      · rw [if_pos hp, List.getElem?_drop]
        have hle : (i + 1) * u.size ≤ m.toNat * u.size := Nat.mul_le_mul_right _ (by omega)
        rw [Nat.add_mul, Nat.one_mul] at hle
        have hzs : z.cells.size = u.size := by rw [← hzl, Array.length_toList]
        have hmod : (i * u.size + p) % u.size = p := by rw [Nat.add_comm, Nat.add_mul_mod_self_right, Nat.mod_eq_of_lt hp]
        rw [Array.getElem?_toList, Array.getElem?_toList]
        have hlt : i * u.size + p < m.toNat * u.size := by omega
        simp only [madeCells, Array.getElem?_map, Array.getElem?_range, if_pos hlt, Option.map_some, hzs, hmod]
        have hpz : p < z.cells.size := by omega
        rw [getElem!_pos z.cells p hpz, Array.getElem?_eq_getElem hpz]
      · rw [if_neg hp, List.getElem?_eq_none (by omega)]
    rw [e1]
    exact hk
  · rw [List.length_replicate]
    simp only [execOp, ho, hx1, hy1, Sem.run_bind, hrun, Result.andThen_ok, Sem.run_pure]
end
end Go.Proofs.YtkadllkeekoopaaGreat.Abs
end

section
namespace Go.Proofs.YtkadllkeekoopaaGreat.Abs
open Go.RowKit

/-! ## append, as a run -/
theorem run_append_any {P : Program} (w : World) (base : Nat) (t0 t1 ty e : TypeId) (i : TypeInfo) (z : Value) (d1 : TypeDesc) (ht : P.underlying t0 = some (.slice e)) (ht1 : P.underlying t1 = some d1) (hd1 : ∀ k, d1 ≠ .int k) (hi : P.info? e = some i) (hz : i.zero = some z) (hzs : z.cells.size = i.size)
    (v : Value) (n : Nat) (xs : List Value) (hown : w.ownsRow base e i.size v n xs) (x : Value) (m : Nat) (hm : ∀ w', (Builtin.lenOf x).run P w' = .ok m w') (news : List Value) (hl : news.length = m * i.size)
    (hf : ∀ w', w'.heap = w.heap → (Builtin.firstCells i.size m x).run P w' = .ok news.toArray w') (h1 : ∀ u ∈ news, u.oneCell' = true)
    (h63 : n + m ≤ maxLen) (hbytes : (n + m) * i.bytes ≤ 140737488355328) (hbase : base ≤ w.heap.size) :
    ∃ v' w', (Builtin.append_ #[t0, t1] ty #[v, x]).run P w = .ok v' w' ∧ w'.ownsRow base e i.size v' (n + m) (xs ++ news) ∧ w.grownBy w' v.ownBlock ∧ (∀ b, blk v' = some b → blk v = some b ∨ w.heap.size ≤ b) := by
  have hsmall : n + m ≤ 9223372036854775807 := by simp only [maxLen] at h63; omega
  have hlen : (xs ++ news).length = (n + m) * i.size := by rw [List.length_append, hown.1, hl, Nat.add_mul]
  have grown : ∀ (old : Nat), old < n + m → ∀ (row : Option Nat),
      (w.drew.alloc (.cells (xs.toArray ++ news.toArray ++ Builtin.zeroCells z.cells (grownCap w (n + m) old e - (n + m))) e)).ownsRow base e i.size
        (.slice (some ⟨w.heap.size, 0, none⟩) (n + m) (grownCap w (n + m) old e)) (n + m) (xs ++ news) ∧
      w.grownBy (w.drew.alloc (.cells (xs.toArray ++ news.toArray ++ Builtin.zeroCells z.cells (grownCap w (n + m) old e - (n + m))) e)) row := by
    intro old ho row
    have hge := grownCap_ge w (n + m) old e
    have hcm : grownCap w (n + m) old e ≤ maxLen := grownCap_le_maxLen w (n + m) old e h63
    refine ⟨⟨hlen, .inr ⟨w.heap.size, _, _, rfl, hbase, heap_alloc_new w.drew _, hge, hcm, ?_, ?_⟩⟩, ⟨rfl, rfl, rfl, by simp, fun k hk _ => heap_alloc_old w.drew _ k hk⟩⟩
    · simp only [Array.size_append, List.size_toArray, size_zeroCells, hzs, hown.1, hl, ← Nat.add_mul]
      congr 1
      omega
    · simp only [Array.toList_append, List.append_assoc]
      rw [← List.append_assoc, ← hlen]
      exact List.take_left
  have hfd := hf w.drew rfl
  have hmw := hm w
  rcases hown.2 with ⟨rfl, rfl⟩ | ⟨g, cap, cur, rfl, hbg, hg, hnc, hcm, hcs, htake⟩
  · have hx : xs = [] := List.eq_nil_of_length_eq_zero (by simpa using hown.1)
    subst hx
    by_cases hm0 : m = 0
    · subst hm0
      have hn : news = [] := List.eq_nil_of_length_eq_zero (by simpa using hl)
      subst hn
      refine ⟨.slice none 0 0, w, ?_, World.ownsRow_nil w base e i.size, World.grownBy_refl w _, by simp [blk]⟩
      have hf0 := hf w rfl
      simp [Builtin.append_, run_underlying ht, run_underlying ht1, sizeOf, typeInfo, hi, hmw, hf0]
    · have hgr := grown 0 (by omega) (Value.ownBlock (.slice none 0 0))
      have h63' : ¬ (9223372036854775807 < (m : Int)) := by omega
      have h48' : ¬ (281474976710656 < Builtin.nextslicecap m 0 * i.bytes) := by
        rw [nextslicecap_zero (by omega)]
        have := hbytes
        rw [Nat.zero_add] at this
        omega
      simp only [Nat.zero_add, List.nil_append, Array.empty_append] at hgr ⊢
      refine ⟨_, _, ?_, hgr.1, hgr.2, fun b hb => .inr (by simp [blk] at hb; omega)⟩
      simp [Builtin.append_, run_underlying ht, run_underlying ht1, sizeOf, typeInfo, zeroValue, hi, hz, hmw, hm0, h63', h48', Question.forced, run_firstCells_none, hfd, newRow, grownCap]
  · by_cases hroom : n + m ≤ cap
    · have hfit : n * i.size + news.length ≤ cur.size := by rw [hl, hcs, ← Nat.add_mul]; exact Nat.mul_le_mul_right _ hroom
      have hst := run_storeCells_at P g (n * i.size) e news 0 cur w hg (by simpa using hfit) h1
      simp only [Nat.add_zero] at hst
      have hf0 := hf w rfl
      refine ⟨.slice (some ⟨g, 0, none⟩) (n + m) cap, w.setRow g (cur.toList.take (n * i.size) ++ news ++ cur.toList.drop (n * i.size + news.length)).toArray, ?_, ⟨hlen, .inr ⟨g, cap, _, rfl, hbg, setRow_heap w g cur _ e _ hg, hroom, hcm, ?_, ?_⟩⟩, ⟨rfl, rfl, rfl, by simp, fun k _ hk => setRow_other w g k _ (fun e => hk (by simp [Value.ownBlock, e]))⟩, fun b hb => .inl hb⟩
      · simp [Builtin.append_, run_underlying ht, run_underlying ht1, sizeOf, typeInfo, hi, hmw, hroom, hf0, Addr.add_lit, hst]
      · simp only [List.size_toArray, List.length_append, List.length_take, List.length_drop, Array.length_toList]
        omega
      · rw [htake, ← hlen]
        exact List.take_left
    · have holds : ∀ j u, xs[j]? = some u → w.cell? ((⟨g, 0, none⟩ : Addr).add j) = some u := hown.cells (g := g) rfl
      have hfo := run_firstCells_some (P := P) w.drew i.size n ⟨g, 0, none⟩ n cap xs hown.1 (by simpa using holds)
      have h63' : ¬ (9223372036854775807 < ((n : Int) + (m : Int))) := by omega
      have h48' : ¬ (281474976710656 < Builtin.nextslicecap (n + m) cap * i.bytes) := by
        have := growslice_fits (old := cap) (need := n + m) (by omega) hbytes
        omega
      have hgr := grown cap (by omega) (Value.ownBlock (.slice (some ⟨g, 0, none⟩) n cap))
      refine ⟨_, _, ?_, hgr.1, hgr.2, fun b hb => .inr (by simp [blk] at hb; omega)⟩
      simp [Builtin.append_, run_underlying ht, run_underlying ht1, sizeOf, typeInfo, zeroValue, hi, hz, hmw, hroom, h63', h48', Question.forced, hfd, hfo, newRow, grownCap]
      try (congr 2; apply Array.ext'; simp [List.append_assoc])

section
variable {ρ : Type} {G : Ctx} {fr : Fr} {σ : Nat → Value} {s : St} {a : Act} {w : World} {o : Oper} {K : V → St → Option ρ} {r : ρ}

/-- A row's cells, one behind the other. -/
theorem RowF.cells {α : Type} {F : Nat → Prop} {K : α → List Value → Prop} {z : Nat} {A : Option Addr} {xs : List α} (h : RowF w F K z A xs) :
    ∃ news : List Value, news.length = xs.length * z ∧ (∀ (i : Nat) x, xs[i]? = some x → K x ((news.drop (i * z)).take z)) ∧ (xs = [] ∨ ∃ ad, A = some ad ∧ ad.spot = none ∧ ∀ j u, news[j]? = some u → w.cell? ⟨ad.block, ad.off + j, none⟩ = some u) := by
  rcases h with rfl | ⟨ad, hA, hs, _, hx⟩
  · exact ⟨[], by simp, fun i x hi => by simp at hi, .inl rfl⟩
  · have key : ∀ n, n ≤ xs.length → ∃ news : List Value, news.length = n * z ∧ (∀ (i : Nat) x, i < n → xs[i]? = some x → K x ((news.drop (i * z)).take z)) ∧ ∀ j u, news[j]? = some u → w.cell? ⟨ad.block, ad.off + j, none⟩ = some u := fun n => by
      induction n with
      | zero => intro _; exact ⟨[], by simp, fun i x hi => by omega, fun j u hj => by simp at hj⟩
      | succ n ih =>
        intro hn
        obtain ⟨l, h1, h2, h3⟩ := ih (by omega)
        obtain ⟨cs, c1, c2, c3⟩ := hx n xs[n] (List.getElem?_eq_getElem (by omega))
        refine ⟨l ++ cs, by rw [List.length_append, h1, c1, Nat.add_mul, Nat.one_mul], fun i x hi hxi => ?_, fun j u hj => ?_⟩
        · by_cases hin : i < n
          · have := h2 i x hin hxi
            have hle : (i + 1) * z ≤ n * z := Nat.mul_le_mul_right _ hin
            rw [Nat.add_mul, Nat.one_mul] at hle
            rw [List.drop_append_of_le_length (by omega), List.take_append_of_le_length (by rw [List.length_drop]; omega)]
            exact this
          · have : i = n := by omega
            subst this
            rw [List.getElem?_eq_getElem (by omega)] at hxi
            cases hxi
            rw [← h1, List.drop_left, ← c1, List.take_length]
            exact c2
        · by_cases hjl : j < l.length
          · rw [List.getElem?_append_left hjl] at hj
            exact h3 j u hj
          · rw [List.getElem?_append_right (by omega)] at hj
            have := c3 _ u hj
            rw [h1] at this hjl
            rw [show n * z + (j - n * z) = j by omega] at this
            exact this
    obtain ⟨news, h1, h2, h3⟩ := key xs.length (Nat.le_refl _)
    exact ⟨news, h1, fun i x hi => h2 i x (List.getElem?_eq_some_iff.1 hi).1 hi, .inr ⟨ad, hA, hs, h3⟩⟩
theorem cont_cells (R : RelS fr σ s a w) {t : Ty} {c : C} {xs : List t.den} (h : cont s.T t c = some xs) {v : Value} (hv : CR fr σ s.T w c v) :
    ∃ (A : Option Addr) (cap : Nat) (news : List Value), v = .slice A xs.length cap ∧ news.length = xs.length * t.size ∧ (∀ (i : Nat) x, xs[i]? = some x → KF w (Foot fr σ s.T w (alOf s.T [c])) t x ((news.drop (i * t.size)).take t.size)) ∧ (xs = [] ∨ ∃ ad, A = some ad ∧ ad.spot = none ∧ ∀ j u, news[j]? = some u → w.cell? ⟨ad.block, ad.off + j, none⟩ = some u) := by
  cases c with
  | sl al u ys =>
    obtain ⟨rfl, hx⟩ := asL_some h
    have hx : xs = ys := hx
    subst hx
    obtain ⟨A, cap, hv, _, hrow⟩ := hv
    simp at hv
    obtain ⟨news, h1, h2, h3⟩ := hrow.cells
    refine ⟨A, cap, news, hv, h1, fun i x hi => KF.imp (fun b hb => ⟨Foot.up (fun h => ?_) hb, rfl⟩) _ x _ (h2 i x hi), h3⟩
    simp [alOf, h]
  | nil =>
    simp only [cont] at h
    cases h
    exact ⟨none, 0, [], hv, by simp, fun i x hi => by simp at hi, .inl rfl⟩
  | own id =>
    obtain ⟨rfl, o, ho⟩ := hv
    simp only [cont, ho] at h
    cases o with
    | row e al u ys =>
      obtain ⟨rfl, hx⟩ := asL_some h
      have hx : xs = ys := hx
      subst hx
      obtain ⟨inner, how, _, hk⟩ := R.objs id _ ho
      have hal : ∀ i x, xs[i]? = some x → KF w (Foot fr σ s.T w (alOf s.T [.own id])) _ x ((inner.drop (i * u.size)).take u.size) := fun i x hi => KF.imp (fun b hb => ⟨Foot.up (fun h => by simp [alOf, ho, h]) hb, rfl⟩) _ x _ (hk i x hi)
      rcases how.2 with ⟨hval, hn⟩ | ⟨g, cap, cur, hval, _⟩
      · have hnil : xs = [] := List.eq_nil_of_length_eq_zero hn
        subst hnil
        exact ⟨none, 0, inner, by rw [hval]; rfl, how.1, hal, .inl rfl⟩
      · refine ⟨_, cap, inner, hval, how.1, hal, .inr ⟨_, rfl, rfl, fun j u' hj => ?_⟩⟩
        have := how.cells (g := g) (by rw [hval]; rfl) j u' hj
        rw [Addr.add_lit] at this
        exact this
    | win al u ys => exact (R.objs id _ ho).elim
    | box _ _ => cases h
    | arr _ _ _ _ => cases h
    | iter _ _ => cases h
  | view id lo len =>
    obtain ⟨o, A, n, cap, A', c', ho, hσ, h1, rfl, h3, h4, h5⟩ := hv
    simp only [cont, ho] at h
    cases o with
    | row e al u ys =>
      change (asL t u ys).map _ = some xs at h
      cases hy : asL t u ys with
      | none => rw [hy] at h; cases h
      | some zs =>
        rw [hy] at h
        cases h
        obtain ⟨rfl, hx⟩ := asL_some hy
        have hx : zs = ys := hx
        subst hx
        obtain ⟨A2, cap2, hσ2, hc, hA, hr⟩ := row_read (R.objs id _ ho) (F := fun b => Foot fr σ s.T w (alOf s.T [.view id lo len]) b ∨ blk (σ id) = some b) (fun b hb => .inl (Foot.up (fun h => by simp [alOf, ho, h]) hb)) (fun b hb => .inr hb)
        rw [hσ] at hσ2
        cases hσ2
        obtain ⟨inner, how, _, hk⟩ := R.objs id _ ho
        refine ⟨A', c', (inner.drop (lo * u.size)).take (len * u.size), ?_, ?_, fun i x hi => ?_, ?_⟩
        · rw [List.length_take, List.length_drop]
          congr 1
          omega
        · rw [List.length_take, List.length_take, List.length_drop, List.length_drop, how.1, ← Nat.sub_mul]
          have : (lo + len) * u.size ≤ zs.length * u.size := Nat.mul_le_mul_right _ h1
          exact Nat.mul_min_mul_right _ _ _
        · have hi' : zs[lo + i]? = some x ∧ i < len := by
            rw [List.getElem?_take] at hi
            split at hi
            · rw [List.getElem?_drop] at hi
              exact ⟨hi, by assumption⟩
            · cases hi
          have := hk (lo + i) x hi'.1
          have hle : (i + 1) * u.size ≤ len * u.size := Nat.mul_le_mul_right _ hi'.2
          rw [Nat.add_mul, Nat.one_mul] at hle
          have e : ((((inner.drop (lo * u.size)).take (len * u.size)).drop (i * u.size)).take u.size) = (inner.drop ((lo + i) * u.size)).take u.size := by
            apply List.ext_getElem?
            intro p
            rw [List.getElem?_take, List.getElem?_take]
            by_cases hp : p < u.size
            · rw [if_pos hp, if_pos hp, List.getElem?_drop, List.getElem?_take, if_pos (by omega), List.getElem?_drop, List.getElem?_drop]
              congr 1
              rw [Nat.add_mul]
              omega
            · rw [if_neg hp, if_neg hp]
          rw [e]
          exact KF.imp (fun b hb => ⟨Foot.up (fun h => by simp [alOf, ho, h]) hb, rfl⟩) _ x _ this
        · by_cases h0 : len = 0
          · left
            subst h0
            simp
          · right
            obtain ⟨ad, hA1, hA2⟩ := h5 (by omega)
            rcases how.2 with ⟨hval, hn⟩ | ⟨g, cap3, cur, hval, _⟩
            · rw [hσ] at hval
              simp only [Value.slice.injEq] at hval
              rw [hval.1] at hA1
              cases hA1
            · rw [hσ] at hval
              cases hval
              cases hA1
              refine ⟨_, hA2, by rw [Addr.add_lit], fun j u' hj => ?_⟩
              rw [Addr.add_lit]
              rw [List.getElem?_take] at hj
              split at hj
              · rw [List.getElem?_drop] at hj
                have := how.cells (g := g) (by rw [hσ]; rfl) _ u' hj
                rw [Addr.add_lit] at this
                rw [Nat.add_assoc]
                exact this
              · cases hj
    | win al u ys => exact (R.objs id _ ho).elim
    | box _ _ => cases h
    | arr _ _ _ _ => cases h
    | iter _ _ => cases h
  | _ => simp [cont] at h
end
end Go.Proofs.YtkadllkeekoopaaGreat.Abs
end

section
namespace Go.Proofs.YtkadllkeekoopaaGreat.Abs
open Go.RowKit

section
variable {ρ : Type} {G : Ctx} {fr : Fr} {σ : Nat → Value} {s : St} {a : Act} {w : World} {o : Oper} {K : V → St → Option ρ} {r : ρ}

theorem moved_foot (R : RelS fr σ s a w) {id : Nat} {ob ob' : Obj} (ho : get s.T id = some ob) {w' : World} (hg : w.grownBy w' (blk (σ id))) {v : Value}
    (hv : ∀ b, blk v = some b → blk (σ id) = some b ∨ w.heap.size ≤ b) : ∀ al b, Foot fr σ s.T w al b → Foot fr (upd σ id v) (setO id ob' (purge id s)).T w' al b ∧ w'.heap[b]? = w.heap[b]? := by
  have _ := R
  have hget : ∀ i, get (setO id ob' (purge id s)).T i = if id = i then some ob' else (get s.T i).map (mapO (purgeC id)) := fun i => by
    simp only [setO, purge, get_cons, get_del, get_mapT]
    by_cases e : id = i <;> simp [e]
  have hown : ∀ b, Own (upd σ id v) (setO id ob' (purge id s)).T b → Own σ s.T b ∨ w.heap.size ≤ b := by
    rintro b ⟨i, o1, hi, hbl⟩
    rw [hget] at hi
    by_cases e : id = i
    · subst e
      rw [upd_same] at hbl
      exact (hv b hbl).imp (fun h => ⟨id, ob, ho, h⟩) (fun h => h)
    · rw [if_neg e] at hi
      rw [upd_other σ id v (Ne.symm e)] at hbl
      cases hi' : get s.T i with
      | none => rw [hi'] at hi; cases hi
      | some o2 => exact .inl ⟨i, o2, hi', hbl⟩
  exact fun al b h => ⟨⟨Nat.lt_of_lt_of_le h.1 hg.size, fun hw => (hown b hw).elim h.2.1 (fun hle => absurd h.1 (by omega)), h.2.2⟩, hg.block b h.1 (fun e => h.2.1 ⟨id, ob, ho, e.symm⟩)⟩
theorem blk_own {v : Value} (h : (∃ A n c, v = .slice A n c)) : v.ownBlock = blk v := by
  obtain ⟨A, n, c, rfl⟩ := h
  cases A <;> rfl
theorem inner_app {t : Ty} {al : Bool} {T' : Tab} {σ' : Nat → Value} {w' : World} {xs ys : List t.den} {inner news : List Value} (hl : inner.length = xs.length * t.size)
    (h1 : ∀ (i : Nat) x, xs[i]? = some x → KF w' (Foot fr σ' T' w' al) t x ((inner.drop (i * t.size)).take t.size)) (h2 : ∀ (i : Nat) x, ys[i]? = some x → KF w' (Foot fr σ' T' w' al) t x ((news.drop (i * t.size)).take t.size)) :
    ∀ (i : Nat) x, (xs ++ ys)[i]? = some x → KF w' (Foot fr σ' T' w' al) t x (((inner ++ news).drop (i * t.size)).take t.size) := by
  intro i x hi
  by_cases hlt : i < xs.length
  · rw [List.getElem?_append_left hlt] at hi
    have hle : (i + 1) * t.size ≤ xs.length * t.size := Nat.mul_le_mul_right _ hlt
    rw [Nat.add_mul, Nat.one_mul] at hle
    rw [List.drop_append_of_le_length (by omega), List.take_append_of_le_length (by rw [List.length_drop]; omega)]
    exact h1 i x hi
  · rw [List.getElem?_append_right (by omega)] at hi
    have := h2 _ x hi
    rw [List.drop_append, List.drop_of_length_le (by rw [hl]; exact Nat.mul_le_mul_right _ (by omega)), List.nil_append, hl, ← Nat.sub_mul]
    exact this
theorem ones (R : RelS fr σ s a w) {al : Bool} {t : Ty} {xs : List t.den} {news : List Value} (hl : news.length = xs.length * t.size) (h0 : 0 < t.size) (h : ∀ (i : Nat) x, xs[i]? = some x → KF w (Foot fr σ s.T w al) t x ((news.drop (i * t.size)).take t.size)) : ∀ u ∈ news, u.oneCell' = true := by
  intro u hu
  obtain ⟨j, hj⟩ := List.mem_iff_getElem?.1 hu
  have hjl : j < xs.length * t.size := by rw [← hl]; exact (List.getElem?_eq_some_iff.1 hj).1
  have hi : j / t.size < xs.length := Nat.div_lt_of_lt_mul (by rw [Nat.mul_comm]; exact hjl)
  have hk := h (j / t.size) xs[j / t.size] (List.getElem?_eq_getElem hi)
  refine CRs.one R (CRs.flat t _ _ hk) u (List.mem_iff_getElem?.2 ⟨j % t.size, ?_⟩)
  rw [List.getElem?_take, if_pos (Nat.mod_lt _ h0), List.getElem?_drop, ← hj]
  congr 1
  rw [Nat.mul_comm]
  exact Nat.div_add_mod j t.size

/-- What is appended. -/
structure Src (fr : Fr) (σ : Nat → Value) (s : St) (w : World) (t : Ty) (x : Value) (ys : List t.den) (al : Bool) (news : List Value) : Prop where
  len : news.length = ys.length * t.size
  lenOf : ∀ w', (Builtin.lenOf x).run fr.P w' = .ok ys.length w'
  first : ∀ w', w'.heap = w.heap → (Builtin.firstCells t.size ys.length x).run fr.P w' = .ok news.toArray w'
  kf : ∀ (i : Nat) y, ys[i]? = some y → KF w (Foot fr σ s.T w al) t y ((news.drop (i * t.size)).take t.size)

theorem appendTo_spec (R : RelS fr σ s a w) (H : TIs fr.P G) {t0 t1 : TypeId} {e : TypeId} {t : Ty} {d1 : TypeDesc} (hE : slE G t0 = some (e, t)) (ht1 : fr.P.underlying t1 = some d1) (hd1 : ∀ k, d1 ≠ .int k) (hz0 : 0 < t.size) (hb0 : (tiOf G e).bytes ≠ 0)
    {d : Nat} {dst : C} {ys : List t.den} {al : Bool} {v x : Value} {ty : TypeId} {news : List Value} (hv : CR fr σ s.T w dst v) (S : Src fr σ s w t x ys al news)
    (h : appendTo s d e t (tiOf G e).bytes dst ys al K = some r) :
    ∃ u w' u' s' σ', (Builtin.append_ #[t0, t1] ty #[v, x]).run fr.P w = .ok u w' ∧ K u' s' = some r ∧ RelS fr σ' s' a w' ∧ VR fr σ' s'.T w' u' u := by
  obtain ⟨hu0, hte⟩ := slE_of H hE
  obtain ⟨f, dd, z, hf, _, hs, hby, hz, hZ, _⟩ := hte.ex
  have hzs : z.cells.size = f.size := by
    have := KF.len t _ _ (hZ.kf w (fun _ => False))
    rw [Array.length_toList] at this
    rw [this, hs]
  have hone := ones R S.len hz0 S.kf
  have max_of : ∀ n, n * (tiOf G e).bytes ≤ 140737488355328 → n ≤ maxLen := fun n hn => by
    have : n * 1 ≤ n * (tiOf G e).bytes := Nat.mul_le_mul_left _ (by omega)
    simp only [maxLen]
    omega
  have base := Nat.zero_le w.heap.size
  unfold appendTo at h
  split at h
  · split at h
    case isFalse => cases h
    rename_i hbd
    split at h
    case h_2 => cases h
    rename_i s' hn
    have hv : v = .slice none 0 0 := hv
    subst hv
    obtain ⟨v', w', hr, hown, hg, hbk⟩ := run_append_any (P := fr.P) w 0 t0 t1 ty e f z d1 hu0 ht1 hd1 hf hz hzs (.slice none 0 0) 0 [] (World.ownsRow_nil w _ e f.size) x ys.length S.lenOf news (by rw [hs]; exact S.len) (by rw [hs]; exact S.first) hone (by have := max_of _ hbd; omega) (by rw [hby, Nat.zero_add]; exact hbd) base
    have hB : Below w.heap.size w w' := ⟨hg.os, hg.tape, hg.output, hg.size, fun k hk => hg.block k hk (by simp [Value.ownBlock])⟩
    have hnew : ∀ b, blk v' = some b → w.heap.size ≤ b := fun b hb => (hbk b hb).elim (fun h => by cases h) (fun h => h)
    obtain ⟨hm, hget⟩ := R.newMv hn hB hnew
    simp only [Nat.zero_add, List.nil_append] at hown
    rw [hs] at hown
    have R' := R.new hn hB hnew ⟨news, by rw [upd_same]; exact hown, fun b hb => by rw [upd_same] at hb; exact R.kept.fresh b (hnew b hb), fun i y hi => KF.imp (fun b hb => hm.foot al b hb) t y _ (S.kf i y hi)⟩
    exact ⟨v', w', _, s', _, hr, h, R', by rw [upd_same], _, hget⟩
  · rename_i id
    split at h
    case h_2 => cases h
    rename_i e' al0 u xs0 hT
    split at h
    case h_2 => cases h
    rename_i xs hx
    obtain ⟨rfl, hx⟩ := asL_some hx
    have hx : xs = xs0 := hx
    subst hx
    rcases ble_of h with ⟨he, h'⟩ | ⟨_, h'⟩
    case inr => cases h'
    have he := Nat.eq_of_beq_eq_true he
    subst he
    split at h'
    case isFalse => cases h'
    rename_i hbd
    obtain ⟨rfl, _⟩ := hv
    obtain ⟨inner, ho, hnw, hk⟩ := R.objs id _ hT
    obtain ⟨v', w', hr, hown, hg, hbk⟩ := run_append_any (P := fr.P) w 0 t0 t1 ty e f z d1 hu0 ht1 hd1 hf hz hzs (σ id) xs.length inner (by rw [hs]; exact ho) x ys.length S.lenOf news (by rw [hs]; exact S.len) (by rw [hs]; exact S.first) hone (max_of _ hbd) (by rw [hby]; exact hbd) base
    have hob : (σ id).ownBlock = blk (σ id) := blk_own (by rcases ho.2 with ⟨h, _⟩ | ⟨g, cap, cur, h, _⟩ <;> exact ⟨_, _, _, h⟩)
    rw [hob] at hg
    rw [hs] at hown
    have hft := moved_foot R (ob' := .row e (al0 || al) u (xs ++ ys)) hT hg hbk
    have R' := R.moved hT (o' := .row e (al0 || al) u (xs ++ ys)) hg hbk ⟨inner ++ news, by rw [upd_same, List.length_append]; exact hown, fun b hb => by rw [upd_same] at hb; exact (hbk b hb).elim (hnw b) (fun h => R.kept.fresh b h), inner_app ho.1
      (fun i y hi => KF.imp (fun b hb => hft _ b (Foot.up (fun h => by simp [h]) hb)) u y _ (hk i y hi)) (fun i y hi => KF.imp (fun b hb => hft _ b (Foot.up (fun h => by simp [h]) hb)) u y _ (S.kf i y hi))⟩
    exact ⟨v', w', _, _, _, hr, h', R', by rw [upd_same], _, by simp only [setO, get_cons]; rfl⟩
  · rename_i id len
    split at h
    case h_2 => cases h
    rename_i e' al0 u xs0 hT
    split at h
    case h_2 => cases h
    rename_i xs hx
    obtain ⟨rfl, hx⟩ := asL_some hx
    have hx : xs = xs0 := hx
    subst hx
    rcases ble_of h with ⟨he, h'⟩ | ⟨_, h'⟩
    case inr => cases h'
    have he := Nat.eq_of_beq_eq_true he
    subst he
    split at h'
    case isFalse => cases h'
    rename_i hbd
    obtain ⟨inner, ho, hnw, hk⟩ := R.objs id _ hT
    obtain ⟨o1, A, n1, cap, A', c', ho1, hσ, hl1, rfl, h3, h4, h5⟩ := hv
    rw [hT] at ho1
    cases ho1
    obtain ⟨rfl, rfl⟩ := h4 rfl
    have hlen : len ≤ xs.length ∧ n1 = xs.length := by
      rcases ho.2 with ⟨h, h2⟩ | ⟨g, cap, cur, h, _⟩
      · rw [hσ] at h
        simp only [Value.slice.injEq] at h
        omega
      · rw [hσ] at h
        simp only [Value.slice.injEq] at h
        omega
    have hle : len * u.size ≤ xs.length * u.size := Nat.mul_le_mul_right _ hlen.1
    have ho' : w.ownsRow 0 e u.size (.slice A' len c') len (inner.take (len * u.size)) := by
      refine ⟨by rw [List.length_take, ho.1]; omega, ?_⟩
      rcases ho.2 with ⟨h, h2⟩ | ⟨g, cap, cur, h, hb, hh, hnc, hcm, hcs, htk⟩
      · rw [hσ] at h
        simp only [Value.slice.injEq] at h
        exact .inl ⟨by rw [h.1, h.2.2, show len = 0 by omega], by omega⟩
      · rw [hσ] at h
        simp only [Value.slice.injEq] at h
        refine .inr ⟨g, cap, cur, by rw [h.1, h.2.2], hb, hh, by omega, hcm, hcs, ?_⟩
        rw [← htk, List.take_take]
        congr 1
        omega
    obtain ⟨v', w', hr, hown, hg, hbk⟩ := run_append_any (P := fr.P) w 0 t0 t1 ty e f z d1 hu0 ht1 hd1 hf hz hzs (.slice A' len c') len _ (by rw [hs]; exact ho') x ys.length S.lenOf news (by rw [hs]; exact S.len) (by rw [hs]; exact S.first) hone (max_of _ hbd) (by rw [hby]; exact hbd) base
    have hbe : blk (.slice A' len c') = blk (σ id) := by rw [hσ]; cases A' <;> rfl
    rw [blk_own ⟨_, _, _, rfl⟩, hbe] at hg
    rw [hbe] at hbk
    rw [hs] at hown
    have hft := moved_foot R (ob' := .row e (al0 || al) u (xs.take len ++ ys)) hT hg hbk
    have hlt : (xs.take len).length = len := by rw [List.length_take]; omega
    have R' := R.moved hT (o' := .row e (al0 || al) u (xs.take len ++ ys)) hg hbk ⟨inner.take (len * u.size) ++ news, by rw [upd_same, List.length_append, hlt]; exact hown, fun b hb => by rw [upd_same] at hb; exact (hbk b hb).elim (hnw b) (fun h => R.kept.fresh b h), inner_app (by rw [hlt]; exact ho'.1)
      (fun i y hi => by
        rw [List.getElem?_take] at hi
        split at hi
        · rename_i hil
          have := KF.imp (fun b hb => hft (al0 || al) b (Foot.up (fun h => by simp [h]) hb)) u y _ (hk i y hi)
          have hle2 : (i + 1) * u.size ≤ len * u.size := Nat.mul_le_mul_right _ hil
          rw [Nat.add_mul, Nat.one_mul] at hle2
          have e : (((inner.take (len * u.size)).drop (i * u.size)).take u.size) = (inner.drop (i * u.size)).take u.size := by
            apply List.ext_getElem?
            intro p
            rw [List.getElem?_take, List.getElem?_take]
            by_cases hp : p < u.size
            · rw [if_pos hp, if_pos hp, List.getElem?_drop, List.getElem?_take, if_pos (by omega), List.getElem?_drop]
            · rw [if_neg hp, if_neg hp]
          rw [e]
          exact this
        · cases hi) (fun i y hi => KF.imp (fun b hb => hft _ b (Foot.up (fun h => by simp [h]) hb)) u y _ (S.kf i y hi))⟩
    exact ⟨v', w', _, _, _, hr, h', R', by rw [upd_same], _, by simp only [setO, get_cons]; rfl⟩
  · cases h

theorem Src.slice (R : RelS fr σ s a w) {t : Ty} {c : C} {ys : List t.den} (h : cont s.T t c = some ys) {x : Value} (hv : CR fr σ s.T w c x) : ∃ news, Src fr σ s w t x ys (t.hasSl && alOf s.T [c]) news := by
  obtain ⟨A, cap, news, rfl, hl, hk, hc⟩ := cont_cells R h hv
  refine ⟨news, hl, fun _ => rfl, fun w' hw => ?_, fun i y hi => ?_⟩
  · cases A with
    | none =>
      rcases hc with rfl | ⟨ad, hA, _⟩
      · have : news = [] := List.eq_nil_of_length_eq_zero (by simpa using hl)
        subst this
        simp [Builtin.firstCells]
      · cases hA
    | some ad =>
      refine run_firstCells_some (P := fr.P) w' t.size ys.length ad ys.length cap news hl (fun j u hj => ?_)
      rcases hc with rfl | ⟨ad', hA, hs, hcell⟩
      · have : news = [] := List.eq_nil_of_length_eq_zero (by simpa using hl)
        subst this
        simp at hj
      · cases hA
        rw [add_lit' ad hs]
        have := hcell j u hj
        simp only [World.cell?] at this ⊢
        rw [hw]
        exact this
  · cases hsl : t.hasSl with
    | false => exact KF.noSl t y _ hsl (hk i y hi)
    | true => exact hk i y hi
theorem Src.text {bs : ByteArray} : Src fr σ s w (.int .u8) (.string bs) (bs.data.toList.map fun b => (b.toNat : Int)) false (bs.data.toList.map fun b => Value.int .u8 (b.toNat : Int)) := by
  refine ⟨by simp [Ty.size], fun _ => by rw [List.length_map, Array.length_toList]; rfl, fun w' _ => ?_, fun i y hi => ?_⟩
  · simp only [Builtin.firstCells, List.length_map, Array.length_toList]
    have hx : (bs.extract 0 bs.data.size).data = bs.data := by
      rw [ByteArray.data_extract]
      exact Array.extract_size
    rw [hx]
    simp only [Sem.run_pure]
    congr 1
    apply Array.ext'
    simp
  · have hi' : (bs.data.toList.map fun b => (b.toNat : Int))[i]? = some y := hi
    rw [List.getElem?_map] at hi'
    cases hq : bs.data.toList[i]? with
    | none => rw [hq] at hi'; cases hi'
    | some b =>
      rw [hq] at hi'
      simp at hi'
      subst hi'
      show _ = _
      have hlt := (List.getElem?_eq_some_iff.1 hq).1
      have hq2 := (List.getElem?_eq_some_iff.1 hq).2
      simp only [Ty.size, Nat.mul_one]
      rw [← List.map_drop, ← List.map_take, List.drop_eq_getElem_cons hlt, hq2]
      simp

/-! ## The builtins -/
theorem evAll_spec (R : RelS fr σ s a w) : ∀ {xs : List Operand} {vs : List V}, evAll s xs = some vs → vs.length = xs.length ∧ ∀ (i : Nat) v, vs[i]? = some v → ∃ x, xs[i]? = some x ∧ VR fr σ s.T w v (a.eval x)
  | [], vs, h => by cases h; exact ⟨rfl, fun i v hi => by simp at hi⟩
  | x :: xs, vs, h => by
    simp only [evAll] at h
    split at h
    case h_2 => cases h
    rename_i v hv
    split at h
    case h_2 => cases h
    rename_i vs' hvs
    cases h
    obtain ⟨h1, h2⟩ := evAll_spec R hvs
    refine ⟨congrArg (· + 1) h1, fun i v' hi => ?_⟩
    cases i with
    | zero =>
      simp at hi
      subst hi
      exact ⟨x, rfl, ev_spec R hv⟩
    | succ i => simpa using h2 i v' (by simpa using hi)
theorem exec_builtin {c : Call} {b : Builtin} (ho : o.op = .call c) (hc : c.callee = .builtin b) : execOp a.eval o = builtin b c.argTypes o.type (c.args.map fun | .const _ => true | _ => false) (c.args.map a.eval) := by
  obtain ⟨dst, op, ty, pos, aft, gd⟩ := o
  obtain ⟨callee, args, ats⟩ := c
  simp only at ho hc
  subst ho hc
  rfl
theorem evAll_one (R : RelS fr σ s a w) {xs : Array Operand} {v : V} (h : evAll s xs.toList = some [v]) : ∃ x, xs = #[x] ∧ VR fr σ s.T w v (a.eval x) := by
  obtain ⟨h1, h2⟩ := evAll_spec R h
  obtain ⟨x, hx, hv⟩ := h2 0 v rfl
  refine ⟨x, ?_, hv⟩
  obtain ⟨l⟩ := xs
  cases l with
  | nil => cases h1
  | cons y l =>
    cases l with
    | nil => simp at hx; rw [hx]
    | cons _ _ => simp at h1
theorem evAll_two (R : RelS fr σ s a w) {xs : Array Operand} {v v' : V} (h : evAll s xs.toList = some [v, v']) : ∃ x y, xs = #[x, y] ∧ VR fr σ s.T w v (a.eval x) ∧ VR fr σ s.T w v' (a.eval y) := by
  obtain ⟨h1, h2⟩ := evAll_spec R h
  obtain ⟨x, hx, hv⟩ := h2 0 v rfl
  obtain ⟨y, hy, hv'⟩ := h2 1 v' rfl
  refine ⟨x, y, ?_, hv, hv'⟩
  obtain ⟨l⟩ := xs
  cases l with
  | nil => cases h1
  | cons p l =>
    cases l with
    | nil => simp at h1
    | cons q l =>
      cases l with
      | nil => simp at hx hy; rw [hx, hy]
      | cons _ _ => simp at h1

theorem lenC_spec (R : RelS fr σ s a w) {c : C} {n : Int} {v : Value} (h : lenC s.T c = some n) (hv : CR fr σ s.T w c v) (hs : ∀ b, c ≠ .str b) : ∃ A m cap, v = .slice A m cap ∧ n = (m : Int) := by
  cases c with
  | sl al t xs =>
    obtain ⟨A, cap, hv, _⟩ := hv
    simp at hv
    simp only [lenC] at h
    cases h
    exact ⟨A, xs.length, cap, hv, rfl⟩
  | nil => cases h; exact ⟨none, 0, 0, hv, rfl⟩
  | str b => exact absurd rfl (hs b)
  | own id =>
    obtain ⟨rfl, o, ho⟩ := hv
    simp only [lenC, ho] at h
    cases o with
    | row e al t xs =>
      cases h
      rcases row_value (R.objs id _ ho) with ⟨rfl, hval⟩ | ⟨g, cap, hval, _⟩
      · exact ⟨none, 0, 0, hval, rfl⟩
      · exact ⟨_, _, _, hval, rfl⟩
    | win _ _ _ => exact (R.objs id _ ho).elim
    | box _ _ => cases h
    | arr _ _ _ _ => cases h
    | iter _ _ => cases h
  | view id lo len =>
    obtain ⟨o, A, m, cap, A', c', _, _, _, rfl, _⟩ := hv
    cases h
    exact ⟨A', len, c', rfl, rfl⟩
  | _ => cases h
theorem goes_len (R : RelS fr σ s a w) (H : TIs fr.P G) {c : Call} (ho : o.op = .call c) (hc : c.callee = .builtin .len) {x : V} (hx : evAll s c.args.toList = some [x]) {t : TypeId} (ht : c.argTypes.toList = [t]) (h : lenK G s t x K = some r) : Goes fr o a w K r := by
  obtain ⟨y, hy, hv⟩ := evAll_one R hx
  have hat : c.argTypes = #[t] := by rw [← Array.toArray_toList (xs := c.argTypes), ht]
  have ex := exec_builtin (a := a) ho hc
  have go : ∀ n : Int, (Builtin.len_ #[t] o.type #[a.eval y]).run fr.P w = .ok (goInt n) w → (execOp a.eval o).run fr.P w = .ok (.value (.int .i64 n)) w := fun n hn => by
    rw [ex, hy, hat]
    simp only [builtin, List.map_toArray, List.map_cons, List.map_nil, Sem.run_bind, hn, Result.andThen_ok, Sem.run_pure]
    rfl
  unfold lenK at h
  split at h
  · rename_i b
    rcases ble_of h with ⟨hst, h'⟩ | ⟨_, h'⟩
    · obtain ⟨bs, he, rfl⟩ := hv
      refine Goes.val (go _ ?_) h' R rfl
      rw [he]
      simp [Builtin.len_, run_underlying (isStrT_of H hst)]
    · cases h'
  · rename_i c hns
    split at h
    case h_2 => cases h
    rename_i n hn
    rcases ble_of h with ⟨hst, h'⟩ | ⟨_, h'⟩
    · obtain ⟨A, m, cap, he, rfl⟩ := lenC_spec R hn hv (fun b hb => hns b (by rw [hb]))
      cases hz : eszS G t with
      | none => rw [hz] at hst; cases hst
      | some z =>
        obtain ⟨e, j, hu, _, _⟩ := eszS_of H hz
        refine Goes.val (go _ ?_) h' R rfl
        rw [he]
        simp [Builtin.len_, run_underlying hu]
    · cases h'
  · rename_i n u xs
    split at h
    case h_2 => cases h
    rename_i m u' hE
    rcases ble_of h with ⟨hnm, h'⟩ | ⟨_, h'⟩
    · have := Nat.eq_of_beq_eq_true hnm
      subst this
      obtain ⟨e, j, hu, _, _⟩ := arE_of H hE
      refine Goes.val (go _ ?_) h' R rfl
      obtain ⟨arr, he, _⟩ := hv
      rw [he]
      simp [Builtin.len_, run_underlying hu]
    · cases h'
  · cases h

theorem minmax_spec (R : RelS fr σ s a w) (mx : Bool) {k : IntKind} : ∀ {vs : List V} {us : List Value} {x : Int}, (vs.length = us.length ∧ ∀ (i : Nat) v, vs[i]? = some v → ∃ u, us[i]? = some u ∧ VR fr σ s.T w v u) → minmax mx s k x vs K = some r →
    ∃ n, K (.c (.int k n)) s = some r ∧ (us.foldlM (bif mx then Builtin.max2 else Builtin.min2) (Value.int k x)).run fr.P w = .ok (.int k n) w
  | [], us, x, hl, h => by
    cases us with
    | nil => exact ⟨x, h, rfl⟩
    | cons _ _ => simp at hl
  | v :: vs, us, x, hl, h => by
    cases us with
    | nil => simp at hl
    | cons u us =>
      cases v with
      | c y =>
        cases y with
        | int k' b =>
          simp only [minmax] at h
          split at h
          case isFalse => cases h
          rename_i hk
          subst hk
          obtain ⟨u', hu, hv⟩ := hl.2 0 _ rfl
          simp at hu
          subst hu
          have hv : u = .int k b := hv
          subst hv
          obtain ⟨n, hK, hr⟩ := minmax_spec R mx (us := us) ⟨by simpa using hl.1, fun i v hi => by simpa using hl.2 (i + 1) v (by simpa using hi)⟩ h
          refine ⟨n, hK, ?_⟩
          rw [List.foldlM_cons]
          cases mx with
          | true =>
            have : (if b > x then b else x) = max x b := by
              rw [Int.max_def]
              split <;> split <;> omega
            simp only [cond_true, Builtin.max2, Sem.run_bind, Sem.run_pure, Result.andThen_ok, this] at hr ⊢
            exact hr
          | false =>
            have : (if b < x then b else x) = min x b := by
              rw [Int.min_def]
              split <;> split <;> omega
            simp only [cond_false, Builtin.min2, Sem.run_bind, Sem.run_pure, Result.andThen_ok, this] at hr ⊢
            exact hr
        | _ => simp [minmax] at h
      | _ => simp [minmax] at h
theorem goes_minmax (R : RelS fr σ s a w) (mx : Bool) {c : Call} (ho : o.op = .call c) (hc : c.callee = .builtin (bif mx then .max else .min)) {k : IntKind} {x : Int} {vs : List V} (hx : evAll s c.args.toList = some (.c (.int k x) :: vs)) (h : minmax mx s k x vs K = some r) : Goes fr o a w K r := by
  obtain ⟨h1, h2⟩ := evAll_spec R hx
  have ex := exec_builtin (a := a) ho hc
  cases hl : c.args.toList with
  | nil => rw [hl] at h1; cases h1
  | cons y ys =>
    rw [hl] at h1 h2
    obtain ⟨y', hy, hv⟩ := h2 0 _ rfl
    simp at hy
    subst hy
    have hv : a.eval y = .int k x := hv
    obtain ⟨n, hK, hr⟩ := minmax_spec R mx (us := ys.map a.eval) ⟨by simpa using h1, fun i v hi => by
      obtain ⟨z, hz, hvz⟩ := h2 (i + 1) v (by simpa using hi)
      exact ⟨a.eval z, by simp at hz; simp [hz], hvz⟩⟩ h
    refine Goes.val (u := .int k n) ?_ hK R rfl
    have hm : (c.args.map a.eval).toList = .int k x :: ys.map a.eval := by rw [Array.toList_map, hl, List.map_cons, hv]
    rw [ex]
    cases mx with
    | true =>
      simp only [cond_true] at hr
      simp only [cond_true, builtin, Builtin.max_, hm, Sem.run_bind, hr, Result.andThen_ok, Sem.run_pure]
    | false =>
      simp only [cond_false] at hr
      simp only [cond_false, builtin, Builtin.min_, hm, Sem.run_bind, hr, Result.andThen_ok, Sem.run_pure]

theorem goes_append (R : RelS fr σ s a w) (H : TIs fr.P G) {d : Nat} {c : Call} (ho : o.op = .call c) (hc : c.callee = .builtin .append) {dst src : C} (hx : evAll s c.args.toList = some [.c dst, .c src]) {t0 t1 : TypeId} (ht : c.argTypes.toList = [t0, t1]) {e : TypeId} {t : Ty} (hE : slE G t0 = some (e, t)) (hz : t.size ≠ 0) (hb : (tiOf G e).bytes ≠ 0)
    (h : (∃ xs, src = .str xs ∧ t = .int .u8 ∧ isStrT G t1 = true ∧ appendTo s d e (.int .u8) (tiOf G e).bytes dst (xs.map fun b => (b.toNat : Int)) false K = some r) ∨
      (∃ ys, cont s.T t src = some ys ∧ (slE G t1).isSome = true ∧ appendTo s d e t (tiOf G e).bytes dst ys (t.hasSl && alOf s.T [src]) K = some r)) : Goes fr o a w K r := by
  obtain ⟨x, y, hxy, hv, hv'⟩ := evAll_two R hx
  have hat : c.argTypes = #[t0, t1] := by rw [← Array.toArray_toList (xs := c.argTypes), ht]
  have ex := exec_builtin (a := a) ho hc
  have fin : ∀ {u w' u' s' σ'}, (Builtin.append_ #[t0, t1] o.type #[a.eval x, a.eval y]).run fr.P w = .ok u w' → K u' s' = some r → RelS fr σ' s' a w' → VR fr σ' s'.T w' u' u → Goes fr o a w K r := fun hr hK R' hV => by
    refine Goes.val ?_ hK R' hV
    rw [ex, hxy, hat]
    simp only [builtin, List.map_toArray, List.map_cons, List.map_nil, Sem.run_bind, hr, Result.andThen_ok, Sem.run_pure]
  rcases h with ⟨xs, rfl, rfl, hst, h⟩ | ⟨ys, hcy, hst, h⟩
  · obtain ⟨bs, hbs, rfl⟩ := hv'
    rw [hbs] at fin
    obtain ⟨u, w', u', s', σ', h1, h2, h3, h4⟩ := appendTo_spec (ty := o.type) R H hE (isStrT_of H hst) (fun k hk => by cases hk) (by omega) hb hv (Src.text (bs := bs)) h
    exact fin h1 h2 h3 h4
  · obtain ⟨news, S⟩ := Src.slice R hcy hv'
    cases hs1 : slE G t1 with
    | none => rw [hs1] at hst; cases hst
    | some p =>
      obtain ⟨e1, u1⟩ := p
      obtain ⟨u, w', u', s', σ', h1, h2, h3, h4⟩ := appendTo_spec (ty := o.type) R H hE (slE_of H hs1).1 (fun k hk => by cases hk) (by omega) hb hv S h
      exact fin h1 h2 h3 h4
end
end Go.Proofs.YtkadllkeekoopaaGreat.Abs
end

section
namespace Go.Proofs.YtkadllkeekoopaaGreat.Abs
open Go.RowKit

section
variable {ρ : Type} {G : Ctx} {fr : Fr} {σ : Nat → Value} {s : St} {a : Act} {w : World} {o : Oper} {K : V → St → Option ρ} {r : ρ}

/-! ## Slice literals -/
theorem fill_seq {z : Nat} : ∀ (parts : List (Nat × Value)) (k : Nat) (cells : Array Value), (∀ (j : Nat) p, parts[j]? = some p → p.1 = k + j ∧ p.2.cells.size = z) → cells.size = (k + parts.length) * z →
    ∃ cells' : Array Value, Instr.fill (fun i => some (i * z, z)) cells parts = some cells' ∧ cells'.toList = cells.toList.take (k * z) ++ (parts.map fun p => p.2.cells.toList).flatten
  | [], k, cells, _, hc => by
    refine ⟨cells, rfl, ?_⟩
    simp only [List.length_nil, Nat.add_zero] at hc
    simp only [List.map_nil, List.flatten_nil, List.append_nil]
    rw [List.take_of_length_le (by rw [Array.length_toList]; omega)]
  | (i, v) :: parts, k, cells, hp, hc => by
    obtain ⟨hi, hv⟩ := hp 0 _ rfl
    simp only [Nat.add_zero] at hi hv
    subst hi
    have hle : (i + 1) * z ≤ (i + (parts.length + 1)) * z := Nat.mul_le_mul_right _ (by omega)
    rw [Nat.add_mul, Nat.one_mul] at hle
    simp only [List.length_cons] at hc
    obtain ⟨cells1, h1, h2⟩ := fill_step (fun i => some (i * z, z)) cells i v parts rfl hv (by omega)
    have hsz : cells1.size = cells.size := by
      rw [← Array.length_toList, h2]
      simp only [List.length_append, List.length_take, List.length_drop, Array.length_toList]
      omega
    obtain ⟨cells', h3, h4⟩ := fill_seq parts (i + 1) cells1 (fun j p hj => by
      have := hp (j + 1) p (by simpa using hj)
      exact ⟨by omega, this.2⟩) (by rw [hsz, hc]; congr 1; omega)
    refine ⟨cells', by rw [h1, h3], ?_⟩
    rw [h4, h2, List.map_cons, List.flatten_cons]
    have e : (i + 1) * z = (cells.toList.take (i * z) ++ v.cells.toList).length := by
      simp only [List.length_append, List.length_take, Array.length_toList]
      rw [Nat.add_mul, Nat.one_mul]
      omega
    rw [e, List.take_left, List.append_assoc]
theorem flatten_at {α : Type} {z : Nat} : ∀ {L : List (List α)}, (∀ l ∈ L, l.length = z) → ∀ {i : Nat} {l : List α}, L[i]? = some l → (L.flatten.drop (i * z)).take z = l
  | [], _, i, l, hi => by simp at hi
  | m :: L, hL, i, l, hi => by
    have hm := hL m List.mem_cons_self
    cases i with
    | zero =>
      simp at hi
      subst hi
      rw [Nat.zero_mul, List.drop_zero, List.flatten_cons, ← hm, List.take_left]
    | succ i =>
      have e : (i + 1) * z = m.length + i * z := by rw [Nat.add_mul, hm]; omega
      rw [List.flatten_cons, e, List.drop_append, List.drop_of_length_le (by omega), List.nil_append, Nat.add_sub_cancel_left]
      exact flatten_at (fun l h => hL l (List.mem_cons_of_mem _ h)) (by simpa using hi)
theorem cellss_spec : ∀ {vs : List V} {css : List (List C)}, cellss vs = some css → css.length = vs.length ∧ ∀ (i : Nat) cs, css[i]? = some cs → ∃ v, vs[i]? = some v ∧ cellsOf v = some cs
  | [], css, h => by cases h; exact ⟨rfl, fun i cs hi => by simp at hi⟩
  | v :: vs, css, h => by
    simp only [cellss] at h
    split at h
    case h_2 => cases h
    rename_i cs hcs
    split at h
    case h_2 => cases h
    rename_i css' hr
    cases h
    obtain ⟨h1, h2⟩ := cellss_spec hr
    refine ⟨congrArg (· + 1) h1, fun i c hi => ?_⟩
    cases i with
    | zero =>
      simp at hi
      subst hi
      exact ⟨v, rfl, hcs⟩
    | succ i => simpa using h2 i c (by simpa using hi)
theorem unflatL_spec {T : Tab} {t : Ty} : ∀ {css : List (List C)} {xs : List t.den}, unflatL T t css = some xs → xs.length = css.length ∧ ∀ (i : Nat) x, xs[i]? = some x → ∃ cs, css[i]? = some cs ∧ unflat T t cs = some (x, [])
  | [], xs, h => by cases h; exact ⟨rfl, fun i x hi => by simp at hi⟩
  | cs :: css, xs, h => by
    simp only [unflatL] at h
    split at h
    case h_2 => cases h
    rename_i x hx
    split at h
    case h_2 => cases h
    rename_i xs' hr
    cases h
    obtain ⟨h1, h2⟩ := unflatL_spec hr
    refine ⟨congrArg (· + 1) h1, fun i y hi => ?_⟩
    cases i with
    | zero =>
      simp at hi
      subst hi
      exact ⟨cs, rfl, hx⟩
    | succ i => simpa using h2 i y (by simpa using hi)
theorem idsOf_app : ∀ (cs ds : List C), idsOf (cs ++ ds) = idsOf cs ++ idsOf ds
  | [], _ => rfl
  | c :: cs, ds => by cases c <;> simp [idsOf, idsOf_app cs ds]
theorem alOfs_at {T : Tab} : ∀ {css : List (List C)} {i : Nat} {cs : List C}, css[i]? = some cs → alOf T cs = true → alOfs T css = true
  | [], i, cs, h, _ => by simp at h
  | c :: css, i, cs, h, ha => by
    simp only [alOfs, Bool.or_eq_true]
    cases i with
    | zero =>
      simp at h
      subst h
      exact .inl ha
    | succ i => exact .inr (alOfs_at (by simpa using h) ha)
theorem ids_at : ∀ {css : List (List C)} {i : Nat} {cs : List C}, css[i]? = some cs → ∀ j ∈ idsOf cs, j ∈ idsOf css.flatten
  | [], i, cs, h, _, _ => by simp at h
  | c :: css, i, cs, h, j, hj => by
    rw [List.flatten_cons, idsOf_app, List.mem_append]
    cases i with
    | zero =>
      simp at h
      subst h
      exact .inl hj
    | succ i => exact .inr (ids_at (by simpa using h) j hj)
theorem idxs_spec : ∀ {parts : List (Nat × Operand)} {k : Nat}, idxs k parts = true → ∀ (j : Nat) p, parts[j]? = some p → p.1 = k + j
  | [], _, _, j, p, h => by simp at h
  | (i, x) :: parts, k, hk, j, p, h => by
    simp only [idxs, Bool.and_eq_true] at hk
    have hi := Nat.eq_of_beq_eq_true hk.1
    cases j with
    | zero =>
      simp at h
      subst h
      exact hi
    | succ j =>
      have := idxs_spec hk.2 j p (by simpa using h)
      omega

theorem goes_buildSlice (R : RelS fr σ s a w) (H : TIs fr.P G) {d : Nat} {t : TypeId} {len : Nat} {parts : Array (Nat × Operand)} (ho : o.op = .buildSlice t len parts) {e : TypeId} {u : Ty} (hE : slE G t = some (e, u)) (hlen : parts.size = len) (hidx : idxs 0 parts.toList = true) (hb : len * u.size ≤ 16777216) (hlb : len ≤ 16777216)
    {vs : List V} (hvs : evAll s (parts.toList.map (·.2)) = some vs) {css : List (List C)} (hcss : cellss vs = some css) {s1 s2 : St} (hfz : freezeAll (idsOf css.flatten) s = some s1) {xs : List u.den} (hxs : unflatL s.T u css = some xs) (hn : newO d (.row e (u.hasSl && alOfs s.T css) u xs) s1 = some s2) (hK : K (.c (.own d)) s2 = some r) : Goes fr o a w K r := by
  obtain ⟨hu, hue⟩ := slE_of H hE
  obtain ⟨f, dd, z, hf, _, hs, hby, hz, hZ, _⟩ := hue.ex
  obtain ⟨l1, e1⟩ := evAll_spec R hvs
  obtain ⟨l2, e2⟩ := cellss_spec hcss
  obtain ⟨l3, e3⟩ := unflatL_spec hxs
  have R1 := R.freezeAll hfz
  have l0 : parts.toList.length = parts.size := Array.length_toList
  rw [List.length_map] at l1
  -- the elements, one by one
  have el : ∀ (i : Nat) x, xs[i]? = some x → ∃ p, parts.toList[i]? = some p ∧ KF w (Foot fr σ s1.T w (u.hasSl && alOfs s.T css)) u x (a.eval p.2).cells.toList := fun i x hi => by
    obtain ⟨cs, hcs, hux⟩ := e3 i x hi
    obtain ⟨v, hv, hcv⟩ := e2 i cs hcs
    obtain ⟨y, hy, hV⟩ := e1 i v hv
    rw [List.getElem?_map] at hy
    cases hp : parts.toList[i]? with
    | none => rw [hp] at hy; cases hy
    | some p =>
      rw [hp] at hy
      simp at hy
      subst hy
      refine ⟨p, rfl, ?_⟩
      have hcr := cellsOf_spec R hcv hV
      obtain ⟨_, v1, v2, hsp, hk, hv2⟩ := unflat_spec R u cs x [] hux _ hcr
      have : v2 = [] := by
        cases v2 with
        | nil => rfl
        | cons _ _ => exact hv2.elim
      subst this
      rw [List.append_nil] at hsp
      rw [hsp]
      cases hsl : u.hasSl with
      | false => exact KF.noSl u x v1 hsl hk
      | true => exact KF.imp (fun b hb => ⟨reach_frozen R hfz (ids_at hcs) (fun h => alOfs_at hcs h) hb, rfl⟩) u x v1 hk
  have hxl : xs.length = len := by omega
  have hps : ∀ (j : Nat) p, (parts.toList.map fun p => (p.1, a.eval p.2))[j]? = some p → p.1 = 0 + j ∧ p.2.cells.size = u.size := fun j p hj => by
    rw [List.getElem?_map] at hj
    cases hp : parts.toList[j]? with
    | none => rw [hp] at hj; cases hj
    | some q =>
      rw [hp] at hj
      simp at hj
      subst hj
      refine ⟨idxs_spec hidx j q hp, ?_⟩
      have hjl : j < xs.length := by
        have := (List.getElem?_eq_some_iff.1 hp).1
        rw [Array.length_toList] at this
        omega
      obtain ⟨p', hp', hk⟩ := el j xs[j] (List.getElem?_eq_getElem hjl)
      rw [hp] at hp'
      cases hp'
      have := KF.len u _ _ hk
      rw [Array.length_toList] at this
      exact this
  let base : Array Value := (Array.range (len * u.size)).map ((if len * u.size = 0 then #[] else z.cells)[· % (if len * u.size = 0 then #[] else z.cells).size]!)
  obtain ⟨cells, hfill, hcl⟩ := fill_seq (z := u.size) (parts.toList.map fun p => (p.1, a.eval p.2)) 0 base hps (by simp [base, hlen])
  simp only [Nat.zero_mul, List.take_zero, List.nil_append, List.map_map] at hcl
  have hall : ∀ l ∈ parts.toList.map ((fun p => p.2.cells.toList) ∘ fun p => (p.1, a.eval p.2)), l.length = u.size := fun l hl => by
    obtain ⟨j, hj⟩ := List.mem_iff_getElem?.1 hl
    rw [List.getElem?_map] at hj
    cases hp : parts.toList[j]? with
    | none => rw [hp] at hj; cases hj
    | some q =>
      rw [hp] at hj
      simp at hj
      have := (hps j (q.1, a.eval q.2) (by rw [List.getElem?_map, hp]; rfl)).2
      rw [← hj, Array.length_toList]
      exact this
  have hcsz : cells.size = len * u.size := by
    rw [← Array.length_toList, hcl]
    have : ∀ L : List (List Value), (∀ l ∈ L, l.length = u.size) → L.flatten.length = L.length * u.size := fun L => by
      induction L with
      | nil => intro _; simp
      | cons l L ih =>
        intro h
        rw [List.flatten_cons, List.length_append, ih fun m hm => h m (List.mem_cons_of_mem _ hm), h l List.mem_cons_self, List.length_cons, Nat.add_mul]
        omega
    rw [this _ hall, List.length_map, Array.length_toList, hlen]
  refine goes_newrow R R1 hn (cur := cells) (cap := len) (by omega) (by simp only [maxLen]; omega) hcsz (fun i x hi => ?_) ?_ hK
  · obtain ⟨p, hp, hk⟩ := el i x hi
    rw [hcl, flatten_at hall (l := (a.eval p.2).cells.toList) (by rw [List.getElem?_map, hp]; rfl)]
    exact hk
  · rw [hxl]
    have hb' : ¬ (16777216 < len * u.size) := by omega
    have hfill' : Instr.fill (fun i => some (i * u.size, u.size)) base ((parts.map fun p => (p.1, a.eval p.2)).toList) = some cells := by rw [Array.toList_map]; exact hfill
    simp only [execOp, ho, Instr.buildSlice, Sem.run_bind, run_underlying hu, Result.andThen_ok, sizeOf, typeInfo, run_program, hf, Sem.run_pure, hs]
    by_cases h0 : len * u.size = 0
    · simp only [base, if_pos h0] at hfill'
      simp [h0] at hfill' ⊢
      simp [hfill', newRow]
    · simp only [base, if_neg h0] at hfill'
      simp [h0, hb', zeroValue, typeInfo, hf, hz] at hfill' ⊢
      simp [hfill', newRow]
end
end Go.Proofs.YtkadllkeekoopaaGreat.Abs
end

section
namespace Go.Proofs.YtkadllkeekoopaaGreat.Abs
open Go.RowKit

/-! ## What a function is handed, and what it hands back -/
def retV : List Value → Value
  | [u] => u
  | us => .tuple us.toArray
noncomputable def ghostB : Nat → List (Nat × VSh) → Bool
  | _, [] => true
  | n, (i, _) :: r => Nat.beq i n && ghostB (n + 1) r
/-- First the slots 0, 1, .., then ghosts. -/
noncomputable def numB : Nat → List (Nat × VSh) → Bool
  | _, [] => true
  | n, (i, x) :: r => bif Nat.blt i 1000000 then Nat.beq i n && numB (n + 1) r else ghostB 1000000 ((i, x) :: r)
/-- The Go function g of P does what F says. -/
def FnOk (P : Program) (g : FuncId) (F : Fn) : Prop :=
  ∀ (x : F.din.X) (r : F.dout.X), F.run x = some r → ∀ (fr : Fr) (σ : Nat → Value) (us : List Value), fr.P = P → fr.n = us.length → us.length = cntB F.din.slots → RelS fr σ (unpack F.din x) ⟨us.toArray, []⟩ fr.w0 →
    Calls P g us.toArray fr.w0 fun
      | .returned v, w' => ∃ σ' us', v = retV us' ∧ us'.length = cntB F.dout.slots ∧ RelS { fr with n := us'.length } σ' (unpack F.dout r) ⟨us'.toArray, []⟩ w'
      | _, _ => False
def CallOk (P : Program) (g : FuncId) (F : Fn) : Prop := (∀ args w, (callFunc g args).run P w = .ok (.enter g args) w) ∧ (numB 0 F.dout.slots = true ∧ closed F.dout = true) ∧ FnOk P g F

section
variable {fr : Fr} {σ : Nat → Value} {s : St} {a : Act} {w : World}
theorem alOf_mem {T : Tab} : ∀ {cs : List C} {c : C}, c ∈ cs → alOf T [c] = true → alOf T cs = true
  | c0 :: cs, c, h, hc => by
    have halc : alOf T [c0] = true → alOf T (c0 :: cs) = true := by cases c0 <;> simp [alOf] <;> intro h <;> simp [h]
    have hals : alOf T cs = true → alOf T (c0 :: cs) = true := by cases c0 <;> simp [alOf] <;> intro h <;> simp [h]
    cases h with
    | head => exact halc hc
    | tail _ h => exact hals (alOf_mem h hc)
theorem idsOf_mem : ∀ {cs : List C} {c : C} {i : Nat}, c ∈ cs → i ∈ idsOf [c] → i ∈ idsOf cs
  | c0 :: cs, c, i, h, hc => by
    have hidc : ∀ i, i ∈ idsOf [c0] → i ∈ idsOf (c0 :: cs) := by cases c0 <;> simp [idsOf]
    have hids : ∀ i, i ∈ idsOf cs → i ∈ idsOf (c0 :: cs) := by cases c0 <;> simp [idsOf] <;> intro i h <;> exact .inr h
    cases h with
    | head => exact hidc i hc
    | tail _ h => exact hids i (idsOf_mem h hc)

/-- A call's own frame. -/
structure Callee (fr : Fr) (σ : Nat → Value) (s : St) (w : World) (objs : List (Nat × OSh)) (cs : List C) (fr' : Fr) (T' : Tab) : Prop where
  w0 : fr'.w0 = w
  fa : fr'.FA = Reach fr σ s.T w cs
  mb : ∀ id o b, (get objs id).isSome = true → get s.T id = some o → blk (σ id) = some b → fr'.MB b
  new : fr'.new = fun b => w.heap.size ≤ b ∨ fr'.MB b
  tab : ∀ id, (get objs id).isSome = true → ∀ o, get s.T id = some o → ∃ o', get T' id = some o' ∧ okind o' = okind o
  own : ∀ id o', get T' id = some o' → (get objs id).isSome = true ∧ ∃ o, get s.T id = some o
theorem Callee.foot (R : RelS fr σ s a w) {objs : List (Nat × OSh)} {cs : List C} {fr' : Fr} {T' : Tab} (h : Callee fr σ s w objs cs fr' T') {al : Bool} (hal : al = true → alOf s.T cs = true) {b : Nat} (hb : Foot fr σ s.T w al b) : Foot fr' σ T' w true b := by
  have _ := R
  refine ⟨hb.1, fun ⟨i, o', hi, hbl⟩ => ?_, .inr ⟨rfl, ?_⟩⟩
  · obtain ⟨_, o, ho⟩ := h.own i o' hi
    exact hb.2.1 ⟨i, o, ho, hbl⟩
  · rw [h.fa]
    exact .inl (hb.up hal)
theorem Callee.ownFoot (R : RelS fr σ s a w) {objs : List (Nat × OSh)} {cs : List C} {fr' : Fr} {T' : Tab} (h : Callee fr σ s w objs cs fr' T') {id : Nat} {o : Obj} (hn : get objs id = none) (ho : get s.T id = some o) (hm : id ∈ idsOf cs) {b : Nat} (hb : blk (σ id) = some b) : Foot fr' σ T' w true b := by
  refine ⟨((R.objs id o ho).lt b hb).2, fun ⟨i, o', hi, hbl⟩ => ?_, .inr ⟨rfl, ?_⟩⟩
  · obtain ⟨hs, o1, ho1⟩ := h.own i o' hi
    exact R.dist i o1 id o ho1 ho (fun e => by rw [e, hn] at hs; cases hs) b hbl hb
  · rw [h.fa]
    exact .inr ⟨id, hm, o, ho, hb⟩
theorem Callee.cr (R : RelS fr σ s a w) {objs : List (Nat × OSh)} {cs : List C} {fr' : Fr} {T' : Tab} (h : Callee fr σ s w objs cs fr' T') {c c' : C} (hc : c ∈ cs) (hr : readC s.T objs c = some c') {v : Value} (hv : CR fr σ s.T w c v) : CR fr' σ T' w c' v := by
  cases c with
  | int k n => cases hr; exact hv
  | bool b => cases hr; exact hv
  | str b => cases hr; exact hv
  | nil => cases hr; exact hv
  | undef => cases hr
  | sl al t xs =>
    cases hr
    exact KF.imp (fun b hb => ⟨h.foot R (fun ha => alOf_mem hc (by simp [alOf, ha])) hb, rfl⟩) (.sl t) xs [v] hv
  | own id =>
    obtain ⟨rfl, o, ho⟩ := hv
    simp only [readC] at hr
    cases hg : get objs id with
    | some sh =>
      rw [hg] at hr
      cases hr
      obtain ⟨o', ho', _⟩ := h.tab id (by rw [hg]; rfl) o ho
      exact ⟨rfl, o', ho'⟩
    | none =>
      rw [hg] at hr
      simp only [ho] at hr
      cases o with
      | row e al t xs =>
        cases hr
        exact row_whole (R.objs id _ ho) (fun b hb => h.foot R (fun ha => alOf_mem hc (by simp [alOf, ho, ha])) hb) (fun b hb => h.ownFoot R hg ho (idsOf_mem hc (by simp [idsOf])) hb)
      | _ => cases hr
  | view id lo len =>
    have hv' := hv
    obtain ⟨o, A, n, cap, A', c0, ho, h1, h2, h3, h4, h5, h6⟩ := hv
    simp only [readC] at hr
    cases hg : get objs id with
    | some sh =>
      rw [hg] at hr
      cases hr
      obtain ⟨o', ho', hk⟩ := h.tab id (by rw [hg]; rfl) o ho
      exact ⟨o', A, n, cap, A', c0, ho', h1, h2, h3, h4, h5, by rw [okind_size hk]; exact h6⟩
    | none =>
      rw [hg] at hr
      simp only [ho] at hr
      cases o with
      | row e al t xs =>
        cases hr
        exact (row_part (R.objs id _ ho) (fun b hb => h.foot R (fun ha => alOf_mem hc (by simp [alOf, ho, ha])) hb) (fun b hb => h.ownFoot R hg ho (idsOf_mem hc (by simp [idsOf])) hb) ho hv').2
      | _ => cases hr
theorem Callee.crs (R : RelS fr σ s a w) {objs : List (Nat × OSh)} {cs : List C} {fr' : Fr} {T' : Tab} (h : Callee fr σ s w objs cs fr' T') : ∀ {ds ds' : List C} {vs : List Value}, (∀ c ∈ ds, c ∈ cs) → readCs s.T objs ds = some ds' → CRs fr σ s.T w ds vs → CRs fr' σ T' w ds' vs
  | [], ds', vs, _, hr, hv => by
    cases hr
    cases vs with
    | nil => trivial
    | cons _ _ => exact hv.elim
  | c :: ds, ds', vs, hm, hr, hv => by
    simp only [readCs] at hr
    split at hr
    case h_2 => cases hr
    rename_i c' hc'
    split at hr
    case h_2 => cases hr
    rename_i r' hr'
    cases hr
    cases vs with
    | nil => exact hv.elim
    | cons v vs => exact ⟨h.cr R (hm c List.mem_cons_self) hc' hv.1, h.crs R (fun c hc => hm c (List.mem_cons_of_mem _ hc)) hr' hv.2⟩
theorem Callee.vr (R : RelS fr σ s a w) {objs : List (Nat × OSh)} {cs : List C} {fr' : Fr} {T' : Tab} (h : Callee fr σ s w objs cs fr' T') {v v' : V} (hm : ∀ c ∈ argCells [v], c ∈ cs) (hr : readV s.T objs v = some v') {u : Value} (hv : VR fr σ s.T w v u) : VR fr' σ T' w v' u := by
  cases v with
  | c x =>
    simp only [readV] at hr
    split at hr
    case h_2 => cases hr
    rename_i x' hx
    cases hr
    exact h.cr R (hm x (by simp [argCells])) hx hv
  | agg cs0 =>
    simp only [readV] at hr
    split at hr
    case h_2 => cases hr
    rename_i cs' hcs
    cases hr
    obtain ⟨arr, rfl, hA⟩ := hv
    exact ⟨arr, rfl, h.crs R (fun c hc => hm c (by simpa [argCells] using hc)) hcs hA⟩
  | av n t xs =>
    cases hr
    exact hv
  | pt id off =>
    simp only [readV] at hr
    split at hr
    case h_2 => cases hr
    rename_i sh hg
    cases hr
    obtain ⟨o, a0, ho, h1, h2, h3⟩ := hv
    obtain ⟨o', ho', _⟩ := h.tab id (by rw [hg]; rfl) o ho
    exact ⟨o', a0, ho', h1, h2, h3⟩
  | _ => cases hr
theorem Callee.or (R : RelS fr σ s a w) {objs : List (Nat × OSh)} {cs : List C} {fr' : Fr} {T' : Tab} (h : Callee fr σ s w objs cs fr' T') {id : Nat} {o o' : Obj} (hid : (get objs id).isSome = true) (ho : get s.T id = some o) (hm : C.own id ∈ cs) (hb : ∀ ty ds, o = .box ty ds → ∀ c ∈ ds, c ∈ cs) (hr : readO s.T objs o = some o') : OR fr' σ T' w id o' := by
  have hmb : ∀ b, blk (σ id) = some b → fr'.new b := fun b hb => by
    rw [h.new]
    exact .inr (h.mb id o b hid ho hb)
  have hR := R.objs id o ho
  cases o with
  | row e al t xs =>
    cases hr
    obtain ⟨inner, how, _, hk⟩ := hR
    refine ⟨inner, how, hmb, fun i x hi => ?_⟩
    cases hs : t.hasSl with
    | false => exact KF.noSl t x _ hs (hk i x hi)
    | true => exact KF.imp (fun b hb => ⟨h.foot R (fun ha => alOf_mem hm (by simp [alOf, ho, ha])) hb, rfl⟩) t x _ (hk i x hi)
  | box ty ds =>
    simp only [readO] at hr
    split at hr
    case h_2 => cases hr
    rename_i ds' hds
    cases hr
    obtain ⟨g, arr, h1, h2, h3, h4⟩ := hR
    exact ⟨g, arr, h1, hmb g (by rw [h1]; rfl), h3, h.crs R (hb ty ds rfl) hds h4⟩
  | arr ty n t xs =>
    cases hr
    obtain ⟨g, arr, h1, h2, h3, h4⟩ := hR
    exact ⟨g, arr, h1, hmb g (by rw [h1]; rfl), h3, h4⟩
  | win _ _ _ => cases hr
  | iter _ _ => cases hr

theorem readT_spec {T : Tab} {objs : List (Nat × OSh)} : ∀ {l : List (Nat × OSh)} {T' : Tab}, readT T objs l = some T' → ∀ id, match get l id with
    | some _ => ∃ o o', get T id = some o ∧ readO T objs o = some o' ∧ get T' id = some o'
    | none => get T' id = none
  | [], T', h, id => by
    cases h
    rfl
  | (i, x) :: l, T', h, id => by
    simp only [readT] at h
    split at h
    case h_2 => cases h
    rename_i o ho
    split at h
    case h_2 => cases h
    rename_i o' ho'
    split at h
    case h_2 => cases h
    rename_i r' hr'
    cases h
    have ih := readT_spec hr' id
    rw [get_cons]
    by_cases e : i = id
    · subst e
      simp only [if_pos]
      exact ⟨o, o', ho, ho', by rw [get_cons, if_pos rfl]⟩
    · simp only [if_neg e]
      rw [get_cons, if_neg e]
      exact ih
theorem readO_kind {T : Tab} {objs : List (Nat × OSh)} {o o' : Obj} (h : readO T objs o = some o') : okind o' = okind o := by
  cases o with
  | row e al t xs => cases h; rfl
  | box ty ds =>
    simp only [readO] at h
    split at h
    · cases h; rfl
    · cases h
  | arr ty n t xs => cases h; rfl
  | win _ _ _ => cases h
  | iter _ _ => cases h
theorem readE_spec {T : Tab} {objs : List (Nat × OSh)} : ∀ {e e' : Env}, readE T objs e = some e' → ∀ i v', get e' i = some v' → ∃ v, get e i = some v ∧ readV T objs v = some v'
  | [], e', h, i, v', hi => by
    cases h
    cases hi
  | (j, v) :: e, e', h, i, v', hi => by
    simp only [readE] at h
    split at h
    case h_2 => cases h
    rename_i v1 hv1
    split at h
    case h_2 => cases h
    rename_i r' hr'
    cases h
    rw [get_cons] at hi ⊢
    split at hi
    · rename_i e1
      cases hi
      exact ⟨v, by rw [if_pos e1], hv1⟩
    · rename_i e1
      rw [if_neg e1]
      exact readE_spec hr' i v' hi
theorem argCells_get : ∀ {e : Env} {i : Nat} {v : V}, get e i = some v → ∀ c ∈ argCells [v], c ∈ argCells (valsOf e)
  | (j, u) :: e, i, v, h, c, hc => by
    rw [get_cons] at h
    have step : ∀ x, x ∈ argCells (valsOf e) → x ∈ argCells (valsOf ((j, u) :: e)) := fun x hx => by
      cases u <;> simp only [valsOf, argCells, List.mem_cons, List.mem_append] <;> first | exact .inr hx | exact hx
    split at h
    · cases h
      cases u <;> simp_all [valsOf, argCells]
    · exact step c (argCells_get h c hc)
  | [], _, _, h, _, _ => by cases h

/-- What is handed over, as the function that is called sees it. -/
theorem callee_rel (R : RelS fr σ s a w) {objs : List (Nat × OSh)} {cs : List C} {fr' : Fr} {T' : Tab} {e e' : Env} (hT : readT s.T objs objs = some T') (he : readE s.T objs e = some e')
    (hw : fr'.w0 = w) (hfa : fr'.FA = Reach fr σ s.T w cs) (hmb : fr'.MB = fun b => ∃ id o, (get objs id).isSome = true ∧ get s.T id = some o ∧ blk (σ id) = some b) (hnew : fr'.new = fun b => w.heap.size ≤ b ∨ fr'.MB b)
    {us : List Value} (hn : fr'.n = us.length) (hsm : us.length ≤ 1000000) (hec : ∀ i v, get e i = some v → (∀ c ∈ argCells [v], c ∈ cs) ∧ VR fr σ s.T w v (fr'.val ⟨us.toArray, []⟩ i))
    (hown : ∀ id, (get objs id).isSome = true → C.own id ∈ cs) (hbox : ∀ id ty ds, (get objs id).isSome = true → get s.T id = some (.box ty ds) → ∀ c ∈ ds, c ∈ cs) : RelS fr' σ ⟨e', T'⟩ ⟨us.toArray, []⟩ w := by
  have hsp := readT_spec hT
  have some_of : ∀ id o', get T' id = some o' → (get objs id).isSome = true ∧ ∃ o, get s.T id = some o ∧ readO s.T objs o = some o' := fun id o' hi => by
    have := hsp id
    cases hg : get objs id with
    | none => rw [hg] at this; rw [this] at hi; cases hi
    | some sh =>
      rw [hg] at this
      obtain ⟨o, o1, h1, h2, h3⟩ := this
      rw [h3] at hi
      cases hi
      exact ⟨rfl, o, h1, h2⟩
  have hC : Callee fr σ s w objs cs fr' T' := by
    refine ⟨hw, hfa, fun id o b h1 h2 h3 => by rw [hmb]; exact ⟨id, o, h1, h2, h3⟩, hnew, fun id hid o ho => ?_, fun id o' hi => ?_⟩
    · have := hsp id
      cases hg : get objs id with
      | none => rw [hg] at hid; cases hid
      | some sh =>
        rw [hg] at this
        obtain ⟨o0, o1, h1, h2, h3⟩ := this
        rw [ho] at h1
        cases h1
        exact ⟨o1, h3, readO_kind h2⟩
    · obtain ⟨h1, o, h2, _⟩ := some_of id o' hi
      exact ⟨h1, o, h2⟩
  refine ⟨⟨by rw [hw], by rw [hw], by rw [hw], by rw [hw]; exact Nat.le_refl _, fun k _ _ => by rw [hw], fun k hk => by rw [hnew]; exact .inl hk, fun k hk => by rw [hnew] at hk; rw [hw]; exact hk⟩, fun b hb => ?_, fun i o1 j o2 hi hj hij => ?_, fun i o' hi => ?_, fun i v' hi => ?_, by rw [hn]; simp, by rw [hn]; exact hsm, rfl⟩
  · rw [hfa] at hb
    rw [hw]
    rcases hb with hb | ⟨i, _, o, ho, hb⟩
    · exact hb.1
    · exact ((R.objs i o ho).lt b hb).2
  · obtain ⟨_, p, hp, _⟩ := some_of i o1 hi
    obtain ⟨_, q, hq, _⟩ := some_of j o2 hj
    exact R.dist i p j q hp hq hij
  · obtain ⟨h1, o, h2, h3⟩ := some_of i o' hi
    exact hC.or R h1 h2 (hown i h1) (fun ty ds e => hbox i ty ds h1 (by rw [h2, e])) h3
  · obtain ⟨v, hv, hr⟩ := readE_spec he i v' hi
    obtain ⟨h1, h2⟩ := hec i v hv
    exact hC.vr R h1 hr h2
end
end Go.Proofs.YtkadllkeekoopaaGreat.Abs
end
