import Derived.Lib.Repeat
import Derived.Lib.Bytealg
import Derived.Test.YtkadllkeekoopaaGreatAbsD
set_option linter.unusedVariables false
set_option linter.unusedSimpArgs false
section
namespace Go.Proofs.YtkadllkeekoopaaGreat.Abs
open Go.RowKit

/-! ## Functions of Go's library, by what the shelf of contracts says of them -/
theorem ext_ret {fr : Fr} {σ : Nat → Value} {s0 : St} {a : Act} {w' : World} (R : RelS fr σ s0 a fr.w0) (hb : Below fr.w0.heap.size fr.w0 w') (us' : List Value) (e : Env) (hl : us'.length ≤ 1000000)
    (he : ∀ i v, get e i = some v → i < 1000000 ∧ VR { fr with n := us'.length } σ [] w' v (us'.getD i Go.undef)) : RelS { fr with n := us'.length } σ ⟨e, []⟩ ⟨us'.toArray, []⟩ w' := by
  refine ⟨⟨hb.os.trans R.kept.os, hb.tape.trans R.kept.tape, hb.output.trans R.kept.output, Nat.le_trans R.kept.size hb.size, fun k hk hm => ?_, fun k hk => R.kept.fresh k (Nat.le_trans hb.size hk), R.kept.nmb⟩, R.fa, (fun id o id' o' h => by cases h), (fun id o h => by cases h), fun i v hi => ?_, ?_, hl, rfl⟩
  · exact (hb.block k hk).trans (R.kept.block k hk hm)
  · obtain ⟨h1, h2⟩ := he i v hi
    unfold Fr.val
    rw [if_pos h1]
    simpa using h2
  · simp
theorem us1 {us : List Value} (h : us.length = 1) : us = [us.getD 0 Go.undef] := by
  match us, h with
  | [a], _ => rfl
theorem us2 {us : List Value} (h : us.length = 2) : us = [us.getD 0 Go.undef, us.getD 1 Go.undef] := by
  match us, h with
  | [a, b], _ => rfl
theorem val_at {fr : Fr} {us : List Value} {i : Nat} (h : i < 1000000) : fr.val ⟨us.toArray, []⟩ i = us.getD i Go.undef := by
  unfold Fr.val
  rw [if_pos h]
  simp

theorem ext_enter {P : Program} {g : FuncId} {fn : Func} {c : Code} (hf : P.funcs[g]? = some fn) (hb : fn.body = some c) (hname : (fn.name == "runtime.NumGoroutine") = false) : ∀ args w, (callFunc g args).run P w = .ok (.enter g args) w := fun args w => by
  simp [callFunc, hf, hb]
  simpa using hname

/-- The first place of a byte in a text, or -1. -/
noncomputable def stringslite_IndexByte.f (_ : Nat) (a0 : List UInt8) (a1 : Int) : Option (Int × Unit) := some (Lib.indexByte a0 a1.toNat.toUInt8, ())
noncomputable def stringslite_IndexByte.F (N : Nat) : Fn := { din := ⟨[(0, .c .str), (1, .c (.int .u8))], []⟩, dout := ⟨[(0, .c (.int .i64))], []⟩, outs := [(false, .int .i64)], run := fun x => stringslite_IndexByte.f N x.1 x.2.1 }
theorem ext_indexByte {P : Program} {g : FuncId} (N : Nat) (he : ∀ args w, (callFunc g args).run P w = .ok (.enter g args) w)
    (h : ∀ (s : ByteArray) (c : Int) (w : World), Calls P g #[.string s, .int .u8 c] w fun e w' => e = .returned (.int .i64 (Lib.indexByte s.data.toList c.toNat.toUInt8)) ∧ w' = w) : CallOk P g (stringslite_IndexByte.F N) := by
  refine ⟨he, ⟨by kernel_rfl, by kernel_rfl⟩, fun x r hr fr σ us hP hn hc R => ?_⟩
  have e := us2 (us := us) hc
  have h0 := R.env 0 (.c (.str x.1)) rfl
  have h1 := R.env 1 (.c (.int .u8 x.2.1)) rfl
  rw [val_at (by omega)] at h0 h1
  obtain ⟨bs, hb, hbs⟩ := h0
  have h1 : us.getD 1 Go.undef = .int .u8 x.2.1 := h1
  rw [e, hb, h1]
  refine (h bs x.2.1 fr.w0).mono ?_
  rintro e w' ⟨rfl, rfl⟩
  cases hr
  refine ⟨σ, [.int .i64 (Lib.indexByte bs.data.toList x.2.1.toNat.toUInt8)], rfl, rfl, ext_ret R (Below.refl _ _) _ _ (by simp) fun i v hi => ?_⟩
  simp only [unpack, stringslite_IndexByte.F, unpackSlots, unpackV, unpackC, get_cons, get] at hi
  split at hi
  · rename_i e0
    cases hi
    subst e0
    exact ⟨by omega, by rw [← hbs]; rfl⟩
  · cases hi

/-- The first place of a text of one byte in a text, or -1. -/
noncomputable def stringslite_Index.f (_ : Nat) (a0 a1 : List UInt8) : Option (Int × Unit) := match a1 with
  | [c] => some (Lib.indexByte a0 c, ())
  | _ => none
noncomputable def stringslite_Index.F (N : Nat) : Fn := { din := ⟨[(0, .c .str), (1, .c .str)], []⟩, dout := ⟨[(0, .c (.int .i64))], []⟩, outs := [(false, .int .i64)], run := fun x => stringslite_Index.f N x.1 x.2.1 }
theorem ext_index {P : Program} {g : FuncId} (N : Nat) (he : ∀ args w, (callFunc g args).run P w = .ok (.enter g args) w)
    (h : ∀ (s : ByteArray) (c : UInt8) (w : World), Calls P g #[.string s, .string ⟨#[c]⟩] w fun e w' => e = .returned (.int .i64 (Lib.indexByte s.data.toList c)) ∧ w' = w) : CallOk P g (stringslite_Index.F N) := by
  refine ⟨he, ⟨by kernel_rfl, by kernel_rfl⟩, fun x r hr fr σ us hP hn hc R => ?_⟩
  have e := us2 (us := us) hc
  have h0 := R.env 0 (.c (.str x.1)) rfl
  have h1 := R.env 1 (.c (.str x.2.1)) rfl
  rw [val_at (by omega)] at h0 h1
  obtain ⟨bs, hb, hbs⟩ := h0
  obtain ⟨cs, hcb, hcs⟩ := h1
  simp only [stringslite_Index.F, stringslite_Index.f] at hr
  split at hr
  case h_2 => cases hr
  rename_i c hx
  have hcs' : cs = ⟨#[c]⟩ := by
    rw [hx] at hcs
    obtain ⟨⟨l⟩⟩ := cs
    simp only at hcs
    rw [hcs]
  rw [e, hb, hcb, hcs']
  refine (h bs c fr.w0).mono ?_
  rintro e w' ⟨rfl, rfl⟩
  cases hr
  refine ⟨σ, [.int .i64 (Lib.indexByte bs.data.toList c)], rfl, rfl, ext_ret R (Below.refl _ _) _ _ (by simp) fun i v hi => ?_⟩
  simp only [unpack, stringslite_Index.F, unpackSlots, unpackV, unpackC, get_cons, get] at hi
  split at hi
  · rename_i e0
    cases hi
    subst e0
    exact ⟨by omega, by rw [← hbs]; rfl⟩
  · cases hi

/-- So many copies of a text. -/
noncomputable def strings_Repeat.f (_ : Nat) (a0 : List UInt8) (a1 : Int) : Option (List UInt8 × Unit) := if 0 ≤ a1 ∧ a0.length * a1.toNat ≤ 140737488355328 ∧ a1 ≤ 9223372036854775807 then some (Lib.repeatL a0 a1.toNat, ()) else none
noncomputable def strings_Repeat.F (N : Nat) : Fn := { din := ⟨[(0, .c .str), (1, .c (.int .i64))], []⟩, dout := ⟨[(0, .c .str)], []⟩, outs := [(false, .str)], run := fun x => strings_Repeat.f N x.1 x.2.1 }
theorem ext_repeat {P : Program} {g : FuncId} (N : Nat) (he : ∀ args w, (callFunc g args).run P w = .ok (.enter g args) w)
    (h : ∀ (s : ByteArray) (c : Nat) (w : World), c ≤ 9223372036854775807 → s.size * c ≤ 140737488355328 → Calls P g #[.string s, .int .i64 c] w fun e w' => e = .returned (.string ⟨(Lib.repeatL s.data.toList c).toArray⟩) ∧ Below w.heap.size w w') : CallOk P g (strings_Repeat.F N) := by
  refine ⟨he, ⟨by kernel_rfl, by kernel_rfl⟩, fun x r hr fr σ us hP hn hc R => ?_⟩
  have e := us2 (us := us) hc
  have h0 := R.env 0 (.c (.str x.1)) rfl
  have h1 := R.env 1 (.c (.int .i64 x.2.1)) rfl
  rw [val_at (by omega)] at h0 h1
  obtain ⟨bs, hb, hbs⟩ := h0
  have h1 : us.getD 1 Go.undef = .int .i64 x.2.1 := h1
  simp only [strings_Repeat.F, strings_Repeat.f] at hr
  split at hr
  case isFalse => cases hr
  rename_i hcond
  have hcz : x.2.1 = ((x.2.1.toNat : Nat) : Int) := by omega
  have hsz : bs.size = x.1.length := by rw [← hbs]; rfl
  rw [e, hb, h1, hcz]
  refine (h bs x.2.1.toNat fr.w0 (by omega) (by rw [hsz]; exact hcond.2.1)).mono ?_
  rintro e w' ⟨rfl, hw⟩
  cases hr
  refine ⟨σ, [.string ⟨(Lib.repeatL bs.data.toList x.2.1.toNat).toArray⟩], rfl, rfl, ext_ret R hw _ _ (by simp) fun i v hi => ?_⟩
  simp only [unpack, strings_Repeat.F, unpackSlots, unpackV, unpackC, get_cons, get] at hi
  split at hi
  · rename_i e0
    cases hi
    subst e0
    exact ⟨by omega, _, rfl, by rw [← hbs]⟩
  · cases hi
end Go.Proofs.YtkadllkeekoopaaGreat.Abs
end
