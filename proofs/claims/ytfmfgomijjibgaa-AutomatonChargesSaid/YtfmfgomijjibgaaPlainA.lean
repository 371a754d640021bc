import Derived.Laws.Bits64b
import Derived.KernelRfl
import Derived.Test.YtfmfgomijjibgaaFns2
set_option linter.unusedVariables false
set_option linter.unusedSimpArgs false
section
namespace Go.Proofs.Ytfmfgomijjibgaa.Abs.Ints

theorem wrap_i64 {n : Int} (h0 : -9223372036854775808 ≤ n) (h1 : n < 9223372036854775808) : IntKind.wrap .i64 n = n := by
  show (if decide (n % (18446744073709551616 : Int) ≥ (9223372036854775808 : Int)) = true then n % (18446744073709551616 : Int) - (18446744073709551616 : Int) else n % (18446744073709551616 : Int)) = n
  split
  · rename_i h
    have h := of_decide_eq_true h
    omega
  · rename_i h
    have h : ¬ (n % 18446744073709551616 ≥ 9223372036854775808) := fun c => h (decide_eq_true c)
    omega
theorem wrap_u8 (n : Int) : IntKind.wrap .u8 n = n % 256 := by simp [IntKind.wrap, IntKind.bits, IntKind.signed]
theorem wrap_u32 (n : Int) : IntKind.wrap .u32 n = n % 4294967296 := by simp [IntKind.wrap, IntKind.bits, IntKind.signed]
theorem wrap_u8_nat (n : Nat) : IntKind.wrap .u8 (n : Int) = ((n % 256 : Nat) : Int) := by rw [wrap_u8]; rfl
theorem wrap_u32_nat (n : Nat) : IntKind.wrap .u32 (n : Int) = ((n % 4294967296 : Nat) : Int) := by rw [wrap_u32]; rfl
theorem wrap_u32_id {n : Int} (h0 : 0 ≤ n) (h1 : n < 4294967296) : IntKind.wrap .u32 n = n := by rw [wrap_u32]; omega

theorem xor_u8 (a b : Nat) (ha : a < 256) (hb : b < 256) : bits .xor .u8 (a : Int) (b : Int) = ((a ^^^ b : Nat) : Int) := by
  have hx : a ^^^ b < 2 ^ 8 := Nat.xor_lt_two_pow (by omega) (by omega)
  have h1 : (BitVec.ofInt 8 (a : Int)).toNat = a := by rw [BitVec.ofInt_natCast, BitVec.toNat_ofNat]; exact Nat.mod_eq_of_lt (by omega)
  have h2 : (BitVec.ofInt 8 (b : Int)).toNat = b := by rw [BitVec.ofInt_natCast, BitVec.toNat_ofNat]; exact Nat.mod_eq_of_lt (by omega)
  show IntKind.u8.wrap ((BitVec.ofInt 8 (a : Int) ^^^ BitVec.ofInt 8 (b : Int)).toNat : Int) = _
  rw [BitVec.toNat_xor, h1, h2, wrap_u8]
  omega
theorem xor_u32 (a b : Nat) (ha : a < 4294967296) (hb : b < 4294967296) : bits .xor .u32 (a : Int) (b : Int) = ((a ^^^ b : Nat) : Int) := by
  have hx : a ^^^ b < 2 ^ 32 := Nat.xor_lt_two_pow (by omega) (by omega)
  have h1 : (BitVec.ofInt 32 (a : Int)).toNat = a := by rw [BitVec.ofInt_natCast, BitVec.toNat_ofNat]; exact Nat.mod_eq_of_lt (by omega)
  have h2 : (BitVec.ofInt 32 (b : Int)).toNat = b := by rw [BitVec.ofInt_natCast, BitVec.toNat_ofNat]; exact Nat.mod_eq_of_lt (by omega)
  show IntKind.u32.wrap ((BitVec.ofInt 32 (a : Int) ^^^ BitVec.ofInt 32 (b : Int)).toNat : Int) = _
  rw [BitVec.toNat_xor, h1, h2, wrap_u32]
  omega
theorem and_u32 (a b : Nat) (ha : a < 4294967296) (hb : b < 4294967296) : bits .and .u32 (a : Int) (b : Int) = ((a &&& b : Nat) : Int) := by
  have hx : a &&& b < 2 ^ 32 := Nat.and_lt_two_pow _ (by omega)
  have h1 : (BitVec.ofInt 32 (a : Int)).toNat = a := by rw [BitVec.ofInt_natCast, BitVec.toNat_ofNat]; exact Nat.mod_eq_of_lt (by omega)
  have h2 : (BitVec.ofInt 32 (b : Int)).toNat = b := by rw [BitVec.ofInt_natCast, BitVec.toNat_ofNat]; exact Nat.mod_eq_of_lt (by omega)
  show IntKind.u32.wrap ((BitVec.ofInt 32 (a : Int) &&& BitVec.ofInt 32 (b : Int)).toNat : Int) = _
  rw [BitVec.toNat_and, h1, h2, wrap_u32]
  omega
theorem or_u32 (a b : Nat) (ha : a < 4294967296) (hb : b < 4294967296) : bits .or .u32 (a : Int) (b : Int) = ((a ||| b : Nat) : Int) := by
  have hx : a ||| b < 2 ^ 32 := Nat.or_lt_two_pow (by omega) (by omega)
  have h1 : (BitVec.ofInt 32 (a : Int)).toNat = a := by rw [BitVec.ofInt_natCast, BitVec.toNat_ofNat]; exact Nat.mod_eq_of_lt (by omega)
  have h2 : (BitVec.ofInt 32 (b : Int)).toNat = b := by rw [BitVec.ofInt_natCast, BitVec.toNat_ofNat]; exact Nat.mod_eq_of_lt (by omega)
  show IntKind.u32.wrap ((BitVec.ofInt 32 (a : Int) ||| BitVec.ofInt 32 (b : Int)).toNat : Int) = _
  rw [BitVec.toNat_or, h1, h2, wrap_u32]
  omega
end Go.Proofs.Ytfmfgomijjibgaa.Abs.Ints
end

section
namespace Go.Proofs.Ytfmfgomijjibgaa.Abs.T
open Go.Proofs.Ytfmfgomijjibgaa.Abs.Ints

def up (u : U0) : Int := u.2.2.2.2.2.2.2.2.2.2.1
def dn (u : U0) : Int := u.2.2.2.2.2.2.2.2.2.2.2.1
def st (u : U0) : Int := u.2.2.2.2.2.2.2.2.2.2.2.2.1
def hotc (u : U0) : Int := u.2.2.2.2.2.2.2.2.2.2.2.2.2.1
def coldc (u : U0) : Int := u.2.2.2.2.2.2.2.2.2.2.2.2.2.2.1
def hh (u : U0) : Int := u.2.2.2.2.2.2.2.2.2.2.2.2.2.2.2.1
def away (u : U0) : List Int := u.2.2.2.2.2.2.2.2.2.2.2.2.2.2.2.2.2.2.1
def kind (u : U0) : Int := u.2.2.2.2.2.2.2.2.2.2.2.2.2.2.2.2.2.2.2.1
def hours (u : U0) : Int := u.2.2.2.2.2.2.2.2.2.2.2.2.2.2.2.2.2.2.2.2.1

/-- A sound unit. -/
def snd (u : U0) : Prop := (0 ≤ up u ∧ up u ≤ 24) ∧ (0 ≤ dn u ∧ dn u ≤ 24) ∧ (0 ≤ st u ∧ st u ≤ 24) ∧ (0 ≤ hh u ∧ hh u ≤ 24) ∧ (0 ≤ kind u ∧ kind u ≤ 2) ∧ (1 ≤ hours u ∧ hours u ≤ 48) ∧ (kind u = 1 → hours u ≤ st u)
instance (u : U0) : Decidable (snd u) := by unfold snd; infer_instance

theorem sound_loop (N : Nat) (K : U0 → Option (Bool × Unit)) (u : U0) (xs : List Int) (hx : xs.length ≤ 1000) : ∀ (m i : Nat), i ≤ xs.length →
    automaton_Sound.l2 N K (m + (xs.length - i) + 1) (xs.length : Int) (i : Int) u xs = if ∀ x ∈ xs.drop i, 0 ≤ x ∧ x ≤ 24 then K u else some (false, ())
  | m, i, hi => by
    show automaton_Sound.p2 N K (automaton_Sound.l2 N K (m + (xs.length - i))) (xs.length : Int) (i : Int) u xs = _
    unfold automaton_Sound.p2 automaton_Sound.q10000005 automaton_Sound.q6
    by_cases h : i = xs.length
    · subst h
      rw [if_neg (by simp), List.drop_length, if_pos (by simp)]
    · have hi' : i < xs.length := by omega
      have hg : xs.getD i 0 = xs[i] := by rw [List.getD_eq_getElem?_getD, List.getElem?_eq_getElem hi']; rfl
      rw [if_pos (decide_eq_true (by omega)), if_pos (by omega), Int.toNat_natCast, hg, List.drop_eq_getElem_cons hi']
      by_cases h0 : xs[i] < 0
      · rw [if_pos (decide_eq_true h0), if_pos rfl, if_neg (fun c => by have := c xs[i] List.mem_cons_self; omega)]
      · rw [if_neg (by rw [decide_eq_true_eq]; exact h0)]
        by_cases h1 : 24 < xs[i]
        · rw [if_pos (decide_eq_true h1), if_neg (fun c => by have := c xs[i] List.mem_cons_self; omega)]
        · rw [if_neg (by rw [decide_eq_true_eq]; exact h1)]
          show automaton_Sound.l2 N K (m + (xs.length - i)) (xs.length : Int) (IntKind.wrap .i64 ((i : Int) + 1)) u xs = _
          rw [wrap_i64 (by omega) (by omega), show (i : Int) + 1 = ((i + 1 : Nat) : Int) from rfl, show m + (xs.length - i) = m + (xs.length - (i + 1)) + 1 by omega, sound_loop N K u xs hx m (i + 1) (by omega)]
          simp only [List.mem_cons, forall_eq_or_imp]
          by_cases hr : ∀ x ∈ xs.drop (i + 1), 0 ≤ x ∧ x ≤ 24
          · rw [if_pos hr, if_pos ⟨by omega, hr⟩]
          · rw [if_neg hr, if_neg (fun c => hr c.2)]
  termination_by m i => xs.length - i

theorem sound_ok {N : Nat} (hN : 10 < N) (u : U0) : automaton_Sound.f N u = some (decide (snd u), ()) := by
  have hl := fun K => sound_loop N K u [up u, dn u, st u, hh u] (by simp) (N - 5) 0 (by simp)
  simp only [List.length_cons, List.length_nil] at hl
  rw [show N - 5 + (0 + 1 + 1 + 1 + 1 - 0) + 1 = N by omega] at hl
  unfold automaton_Sound.f
  refine (hl _).trans ?_
  simp only [List.drop_zero, List.mem_cons, List.not_mem_nil, or_false, forall_eq_or_imp, forall_eq]
  unfold automaton_Sound.q10000008 automaton_Sound.q10000010 automaton_Sound.q11
  by_cases h : (0 ≤ up u ∧ up u ≤ 24) ∧ (0 ≤ dn u ∧ dn u ≤ 24) ∧ (0 ≤ st u ∧ st u ≤ 24) ∧ (0 ≤ hh u ∧ hh u ≤ 24)
  · rw [if_pos h]
    show (if decide (kind u < 0) = true then (if true = true then some (false, ()) else _) else (if decide (2 < kind u) = true then some (false, ()) else (if decide (hours u < 1) = true then (if true = true then some (false, ()) else _) else (if decide (48 < hours u) = true then some (false, ()) else (if (!decide (kind u = 1)) = true then some (true, ()) else some (decide (hours u ≤ st u), ())))))) = _
    simp only [decide_eq_true_eq, if_true, Bool.not_eq_true', decide_eq_false_iff_not]
    obtain ⟨h1, h2, h3, h4⟩ := h
    repeat' split
    all_goals first
      | (rw [decide_eq_false (fun c : snd u => by obtain ⟨_, _, _, _, c5, c6, _⟩ := c; omega)])
      | (rw [decide_eq_true (show snd u from ⟨h1, h2, h3, h4, by omega, by omega, fun c => by omega⟩)])
      | (rw [show decide (hours u ≤ st u) = decide (snd u) from decide_eq_decide.2 ⟨fun c => ⟨h1, h2, h3, h4, by omega, by omega, fun _ => c⟩, fun c => c.2.2.2.2.2.2 (by omega)⟩])
  · rw [if_neg h, decide_eq_false (fun c : snd u => h ⟨c.1, c.2.1, c.2.2.1, c.2.2.2.1⟩)]

theorem rsound_ok {N : Nat} (u : U0) : gridmarketref24_Sound.f N u = some (decide (snd u), ()) := by
  unfold gridmarketref24_Sound.f gridmarketref24_Sound.q10000002 gridmarketref24_Sound.q3 gridmarketref24_Sound.q10000004 gridmarketref24_Sound.q5
  simp only [show u.2.2.2.2.2.2.2.2.2.2.1 = up u from rfl, show u.2.2.2.2.2.2.2.2.2.2.2.1 = dn u from rfl, show u.2.2.2.2.2.2.2.2.2.2.2.2.1 = st u from rfl, show u.2.2.2.2.2.2.2.2.2.2.2.2.2.2.2.1 = hh u from rfl, show u.2.2.2.2.2.2.2.2.2.2.2.2.2.2.2.2.2.2.2.1 = kind u from rfl, show u.2.2.2.2.2.2.2.2.2.2.2.2.2.2.2.2.2.2.2.2.1 = hours u from rfl,
    decide_eq_true_eq, if_true, Bool.not_eq_true', decide_eq_false_iff_not]
  by_cases hs : snd u
  · rw [decide_eq_true hs]
    obtain ⟨h1, h2, h3, h4, h5, h6, h7⟩ := hs
    rw [if_neg (by omega), if_neg (by omega), if_neg (by omega), if_neg (by omega), if_neg (by omega), if_neg (by omega), if_neg (by omega), if_neg (by omega)]
    have hk : kind u = 0 ∨ kind u = 1 ∨ kind u = 2 := by omega
    have e1 : ¬ hours u < 1 := by omega
    have e2 : ¬ 48 < hours u := by omega
    rcases hk with hk | hk | hk
    · simp [hk, e1, e2]
    · have := h7 hk
      simp [hk, e1, e2, this]
    · simp [hk, e1, e2]
  · rw [decide_eq_false hs]
    by_cases a0 : up u < 0
    · rw [if_pos a0]
    by_cases a1 : 24 < up u
    · rw [if_neg a0, if_pos a1]
    by_cases a2 : dn u < 0
    · rw [if_neg a0, if_neg a1, if_pos a2]
    by_cases a3 : 24 < dn u
    · rw [if_neg a0, if_neg a1, if_neg a2, if_pos a3]
    by_cases a4 : st u < 0
    · rw [if_neg a0, if_neg a1, if_neg a2, if_neg a3, if_pos a4]
    by_cases a5 : 24 < st u
    · rw [if_neg a0, if_neg a1, if_neg a2, if_neg a3, if_neg a4, if_pos a5]
    by_cases a6 : hh u < 0
    · rw [if_neg a0, if_neg a1, if_neg a2, if_neg a3, if_neg a4, if_neg a5, if_pos a6]
    by_cases a7 : 24 < hh u
    · rw [if_neg a0, if_neg a1, if_neg a2, if_neg a3, if_neg a4, if_neg a5, if_neg a6, if_pos a7]
    rw [if_neg a0, if_neg a1, if_neg a2, if_neg a3, if_neg a4, if_neg a5, if_neg a6, if_neg a7]
    by_cases b1 : hours u < 1
    · simp [b1]
    by_cases b2 : 48 < hours u
    · simp [b1, b2]
    by_cases k0 : kind u = 0
    · exact absurd ⟨⟨by omega, by omega⟩, ⟨by omega, by omega⟩, ⟨by omega, by omega⟩, ⟨by omega, by omega⟩, ⟨by omega, by omega⟩, ⟨by omega, by omega⟩, fun c => by omega⟩ hs
    by_cases k1 : kind u = 1
    · by_cases hst : hours u ≤ st u
      · exact absurd ⟨⟨by omega, by omega⟩, ⟨by omega, by omega⟩, ⟨by omega, by omega⟩, ⟨by omega, by omega⟩, ⟨by omega, by omega⟩, ⟨by omega, by omega⟩, fun c => by omega⟩ hs
      · simp [k1, b1, b2, hst]
    by_cases k2 : kind u = 2
    · exact absurd ⟨⟨by omega, by omega⟩, ⟨by omega, by omega⟩, ⟨by omega, by omega⟩, ⟨by omega, by omega⟩, ⟨by omega, by omega⟩, ⟨by omega, by omega⟩, fun c => by omega⟩ hs
    · simp [k0, k1, k2]

/-! ## Caps -/
def coff (u : U0) : Int := max (max (dn u) (hh u + 1)) 1
def con (u : U0) : Int := max (up u) 1
theorem caps_ok {N : Nat} (hN : 10 < N) (u : U0) : automaton_Caps.f N u = some (if snd u then (coff u, con u, ()) else (0, 0, ())) := by
  unfold automaton_Caps.f
  rw [sound_ok hN]
  by_cases h : snd u
  · have w : IntKind.wrap .i64 (hh u + 1) = hh u + 1 := wrap_i64 (by have := h.2.2.2.1; omega) (by have := h.2.2.2.1; omega)
    simp only [Option.bind_some, h, decide_true, Bool.not_true, Bool.false_eq_true, if_false, if_true]
    show some ((max (max (dn u) (IntKind.wrap .i64 (hh u + 1))) 1), (max (up u) 1), ()) = _
    rw [w]
    rfl
  · simp [h]
theorem rcaps_ok {N : Nat} (u : U0) : gridmarketref24_Caps.f N u = some (if snd u then (coff u, con u, ()) else (0, 0, ())) := by
  unfold gridmarketref24_Caps.f
  rw [rsound_ok]
  by_cases h : snd u
  · have w : IntKind.wrap .i64 (hh u + 1) = hh u + 1 := wrap_i64 (by have := h.2.2.2.1; omega) (by have := h.2.2.2.1; omega)
    simp only [Option.bind_some, h, decide_true, Bool.not_true, Bool.false_eq_true, if_false, if_true]
    show some ((max (max (dn u) (IntKind.wrap .i64 (hh u + 1))) 1), (max (up u) 1), ()) = _
    rw [w]
    rfl
  · simp [h]
theorem snd_caps {u : U0} (h : snd u) : (1 ≤ coff u ∧ coff u ≤ 25) ∧ (1 ≤ con u ∧ con u ≤ 24) := by
  obtain ⟨h1, h2, h3, h4, _⟩ := h
  unfold coff con
  omega
end Go.Proofs.Ytfmfgomijjibgaa.Abs.T
end

section
namespace Go.Proofs.Ytfmfgomijjibgaa.Abs.T
open Go.Proofs.Ytfmfgomijjibgaa.Abs.Ints

/-! ## States -/
def isS (u : U0) (s : Int × Int) : Prop := 1 ≤ s.2 ∧ ((s.1 = 0 ∧ s.2 ≤ coff u) ∨ (s.1 = 1 ∧ s.2 ≤ st u) ∨ (s.1 = 2 ∧ s.2 ≤ con u))
instance (u : U0) (s : Int × Int) : Decidable (isS u s) := by unfold isS; infer_instance
def posI (u : U0) (s : Int × Int) : Int :=
  if s.2 < 1 then -1 else if s.1 = 0 ∧ s.2 ≤ coff u then s.2 - 1 else if s.1 = 1 ∧ s.2 ≤ st u then coff u + s.2 - 1 else if s.1 = 2 ∧ s.2 ≤ con u then coff u + st u + s.2 - 1 else -1
theorem posI_neg {u : U0} (h : snd u) (s : Int × Int) : posI u s < 0 ↔ ¬ isS u s := by
  obtain ⟨⟨c1, c2⟩, c3, c4⟩ := snd_caps h
  have hs := h.2.2.1
  unfold posI isS
  repeat' split
  all_goals omega
theorem position_ok {N : Nat} (hN : 10 < N) {u : U0} (h : snd u) (s : Int × Int) : automaton_position.f N u s = some (posI u s, ()) := by
  obtain ⟨⟨c1, c2⟩, c3, c4⟩ := snd_caps h
  have hs := h.2.2.1
  unfold automaton_position.f automaton_position.q10000005 automaton_position.q10000007 automaton_position.q10000009 automaton_position.q10
  rw [caps_ok hN, if_pos h]
  simp only [Option.bind_some, show u.2.2.2.2.2.2.2.2.2.2.2.2.1 = st u from rfl, decide_eq_true_eq]
  unfold posI
  by_cases h1 : s.2 < 1
  · rw [if_pos h1, if_pos h1]
  rw [if_neg h1, if_neg h1]
  by_cases k0 : s.1 = 0
  · by_cases hc : s.2 ≤ coff u
    · rw [if_pos k0, if_pos hc, if_pos ⟨k0, hc⟩, wrap_i64 (by omega) (by omega)]
    · have k1 : ¬ s.1 = 1 := by omega
      have k2 : ¬ s.1 = 2 := by omega
      simp [k0, hc]
  by_cases k1 : s.1 = 1
  · by_cases hc : s.2 ≤ st u
    · have w1 : IntKind.wrap .i64 (coff u + s.2) = coff u + s.2 := wrap_i64 (by omega) (by omega)
      have w2 : IntKind.wrap .i64 (coff u + s.2 - 1) = coff u + s.2 - 1 := wrap_i64 (by omega) (by omega)
      simp [k1, hc, w1, w2]
    · simp [k1, hc]
  by_cases k2 : s.1 = 2
  · by_cases hc : s.2 ≤ con u
    · have w1 : IntKind.wrap .i64 (coff u + st u) = coff u + st u := wrap_i64 (by omega) (by omega)
      have w2 : IntKind.wrap .i64 (coff u + st u + s.2) = coff u + st u + s.2 := wrap_i64 (by omega) (by omega)
      have w3 : IntKind.wrap .i64 (coff u + st u + s.2 - 1) = coff u + st u + s.2 - 1 := wrap_i64 (by omega) (by omega)
      simp [k2, hc, w1, w2, w3]
    · simp [k2, hc]
  · simp [k0, k1, k2]

def rng (k : Int) (n : Nat) : List (Int × Int) := (List.range n).map fun i : Nat => (k, (i : Int) + 1)
theorem rng_succ (k : Int) (n : Nat) : rng k (n + 1) = rng k n ++ [(k, (n : Int) + 1)] := by simp [rng, List.range_succ]
theorem rng_len (k : Int) (n : Nat) : (rng k n).length = n := by simp [rng]
theorem rng_get (k : Int) (n j : Nat) (s : Int × Int) : (rng k n)[j]? = some s ↔ j < n ∧ s = (k, (j : Int) + 1) := by
  unfold rng
  rw [List.getElem?_map]
  by_cases h : j < n
  · rw [List.getElem?_range h]
    simp [h, eq_comm]
  · rw [List.getElem?_eq_none (by simp; omega)]
    simp [h]
def S (u : U0) : List (Int × Int) := rng 0 (coff u).toNat ++ (rng 1 (st u).toNat ++ rng 2 (con u).toNat)
theorem S_get {u : U0} (h : snd u) (j : Nat) (s : Int × Int) : (S u)[j]? = some s ↔ isS u s ∧ posI u s = (j : Int) := by
  obtain ⟨⟨c1, c2⟩, c3, c4⟩ := snd_caps h
  have hs := h.2.2.1
  obtain ⟨a, b⟩ := s
  unfold S
  rw [List.getElem?_append, rng_len]
  by_cases h1 : j < (coff u).toNat
  · rw [if_pos h1, rng_get]
    simp only [Prod.mk.injEq, isS, posI]
    constructor
    · rintro ⟨_, rfl, rfl⟩
      refine ⟨by omega, ?_⟩
      rw [if_neg (by omega), if_pos (by omega)]
      omega
    · rintro ⟨g1, g2⟩
      repeat' split at g2
      all_goals omega
  rw [if_neg h1, List.getElem?_append, rng_len]
  by_cases h2 : j - (coff u).toNat < (st u).toNat
  · rw [if_pos h2, rng_get]
    simp only [Prod.mk.injEq, isS, posI]
    constructor
    · rintro ⟨_, rfl, rfl⟩
      refine ⟨by omega, ?_⟩
      rw [if_neg (by omega), if_neg (by omega), if_pos (by omega)]
      omega
    · rintro ⟨g1, g2⟩
      repeat' split at g2
      all_goals omega
  rw [if_neg h2, rng_get]
  simp only [Prod.mk.injEq, isS, posI]
  constructor
  · rintro ⟨_, rfl, rfl⟩
    refine ⟨by omega, ?_⟩
    rw [if_neg (by omega), if_neg (by omega), if_neg (by omega), if_pos (by omega)]
    omega
  · rintro ⟨g1, g2⟩
    repeat' split at g2
    all_goals omega
theorem S_len {u : U0} (h : snd u) : (S u).length ≤ 100 := by
  obtain ⟨⟨c1, c2⟩, c3, c4⟩ := snd_caps h
  have hs := h.2.2.1
  simp only [S, List.length_append, rng_len]
  omega

theorem rstates_l6 (N : Nat) (K : Int → U0 → List (Int × Int) → Option (List (Int × Int) × Unit)) (c : Nat) (hc : c ≤ 100) (x5 : Int) (u : U0) (acc : List (Int × Int)) (ha : acc.length ≤ 1000) : ∀ (m i : Nat), i ≤ c →
    gridmarketref24_States.l6 N K (m + (c - i) + 1) (c : Int) x5 ((i : Int) + 1) u (acc ++ rng 0 i) = K x5 u (acc ++ rng 0 c)
  | m, i, hi => by
    show gridmarketref24_States.p6 N K (gridmarketref24_States.l6 N K (m + (c - i))) (c : Int) x5 ((i : Int) + 1) u (acc ++ rng 0 i) = _
    unfold gridmarketref24_States.p6
    by_cases h : i = c
    · subst h
      rw [if_neg (by rw [decide_eq_true_eq]; omega)]
    · rw [if_pos (by rw [decide_eq_true_eq]; omega), if_pos (by simp only [List.length_append, rng_len, List.length_singleton]; omega), wrap_i64 (by omega) (by omega), List.append_assoc, ← rng_succ, show m + (c - i) = m + (c - (i + 1)) + 1 by omega]
      exact rstates_l6 N K c hc x5 u acc ha m (i + 1) (by omega)
  termination_by m i => c - i
theorem rstates_l10 (N : Nat) (K : Int → List (Int × Int) → Option (List (Int × Int) × Unit)) (c : Nat) (hc : c ≤ 100) (x5 : Int) (u : U0) (hu : st u = (c : Int)) (acc : List (Int × Int)) (ha : acc.length ≤ 1000) : ∀ (m i : Nat), i ≤ c →
    gridmarketref24_States.l10 N K (m + (c - i) + 1) x5 ((i : Int) + 1) u (acc ++ rng 1 i) = K x5 (acc ++ rng 1 c)
  | m, i, hi => by
    show gridmarketref24_States.p10 N K (gridmarketref24_States.l10 N K (m + (c - i))) x5 ((i : Int) + 1) u (acc ++ rng 1 i) = _
    unfold gridmarketref24_States.p10
    rw [show u.2.2.2.2.2.2.2.2.2.2.2.2.1 = (c : Int) from hu]
    by_cases h : i = c
    · subst h
      rw [if_neg (by rw [decide_eq_true_eq]; omega)]
    · rw [if_pos (by rw [decide_eq_true_eq]; omega), if_pos (by simp only [List.length_append, rng_len, List.length_singleton]; omega), wrap_i64 (by omega) (by omega), List.append_assoc, ← rng_succ, show m + (c - i) = m + (c - (i + 1)) + 1 by omega]
      exact rstates_l10 N K c hc x5 u hu acc ha m (i + 1) (by omega)
  termination_by m i => c - i
theorem rstates_l14 (N : Nat) (K : List (Int × Int) → Option (List (Int × Int) × Unit)) (c : Nat) (hc : c ≤ 100) (acc : List (Int × Int)) (ha : acc.length ≤ 1000) : ∀ (m i : Nat), i ≤ c →
    gridmarketref24_States.l14 N K (m + (c - i) + 1) (c : Int) ((i : Int) + 1) (acc ++ rng 2 i) = K (acc ++ rng 2 c)
  | m, i, hi => by
    show gridmarketref24_States.p14 N K (gridmarketref24_States.l14 N K (m + (c - i))) (c : Int) ((i : Int) + 1) (acc ++ rng 2 i) = _
    unfold gridmarketref24_States.p14
    by_cases h : i = c
    · subst h
      rw [if_neg (by rw [decide_eq_true_eq]; omega)]
    · rw [if_pos (by rw [decide_eq_true_eq]; omega), if_pos (by simp only [List.length_append, rng_len, List.length_singleton]; omega), wrap_i64 (by omega) (by omega), List.append_assoc, ← rng_succ, show m + (c - i) = m + (c - (i + 1)) + 1 by omega]
      exact rstates_l14 N K c hc acc ha m (i + 1) (by omega)
  termination_by m i => c - i
theorem rstates_ok {N : Nat} (hN : 200 < N) (u : U0) : gridmarketref24_States.f N u = some (if snd u then S u else [], ()) := by
  unfold gridmarketref24_States.f
  rw [rcaps_ok, rsound_ok]
  simp only [Option.bind_some]
  by_cases h : snd u
  · obtain ⟨⟨c1, c2⟩, c3, c4⟩ := snd_caps h
    have hs := h.2.2.1
    simp only [h, decide_true, Bool.not_true, Bool.false_eq_true, if_false, if_true]
    obtain ⟨a, ea⟩ := Int.eq_ofNat_of_zero_le (a := coff u) (by omega)
    obtain ⟨b, eb⟩ := Int.eq_ofNat_of_zero_le (a := st u) (by omega)
    obtain ⟨c, ec⟩ := Int.eq_ofNat_of_zero_le (a := con u) (by omega)
    have h6 := fun K => rstates_l6 N K a (by omega) (con u) u [] (by simp) (N - a - 1) 0 (by omega)
    rw [show N - a - 1 + (a - 0) + 1 = N by omega] at h6
    have h10 := fun K => rstates_l10 N K b (by omega) (con u) u eb ([] ++ rng 0 a) (by simp [rng_len]; omega) (N - b - 1) 0 (by omega)
    rw [show N - b - 1 + (b - 0) + 1 = N by omega] at h10
    have h14 := fun K => rstates_l14 N K c (by omega) ([] ++ rng 0 a ++ rng 1 b) (by simp [rng_len]; omega) (N - c - 1) 0 (by omega)
    rw [show N - c - 1 + (c - 0) + 1 = N by omega] at h14
    rw [ea]
    refine (h6 _).trans ?_
    have z : ∀ (k : Int) (l : List (Int × Int)), l ++ rng k 0 = l := fun k l => by simp [rng]
    rw [z] at h10 h14
    refine (h10 _).trans ?_
    rw [ec]
    refine (h14 _).trans ?_
    unfold S
    rw [ea, eb, ec]
    simp
  · simp [h]

/-- The first place of a state. -/
theorem rposition_loop (N : Nat) (s : Int × Int) (l : List (Int × Int)) (hl : l.length ≤ 1000) (p : Int) (hp : ∀ j : Nat, l[j]? = some s ↔ p = (j : Int)) (hp0 : p < 0 → p = -1) : ∀ (m i : Nat), i ≤ l.length → (∀ j : Nat, j < i → p ≠ (j : Int)) →
    gridmarketref24_Position.l3 N (fun _ => some (-1, ())) (m + (l.length - i) + 1) (i : Int) s l = some (p, ())
  | m, i, hi, hj => by
    show gridmarketref24_Position.p3 N (fun _ => some (-1, ())) (gridmarketref24_Position.l3 N (fun _ => some (-1, ())) (m + (l.length - i))) (i : Int) s l = _
    unfold gridmarketref24_Position.p3
    by_cases h : i = l.length
    · subst h
      rw [if_neg (by simp)]
      have : p < 0 := Decidable.byContradiction fun c => by
        obtain ⟨j, rfl⟩ := Int.eq_ofNat_of_zero_le (a := p) (by omega)
        have h1 := (hp j).2 rfl
        have := (List.getElem?_eq_some_iff.1 h1).1
        exact hj j this rfl
      rw [hp0 this]
    · have hi' : i < l.length := by omega
      have hg : l.getD i (0, 0) = l[i] := by rw [List.getD_eq_getElem?_getD, List.getElem?_eq_getElem hi']; rfl
      rw [if_pos (decide_eq_true (by omega)), if_pos (by omega), Int.toNat_natCast, hg]
      by_cases he : l[i] = s
      · rw [if_pos (by rw [he]; simp)]
        have := (hp i).1 (by rw [List.getElem?_eq_getElem hi', he])
        rw [this]
      · rw [if_neg (by simp only [Bool.and_eq_true, decide_eq_true_eq]; exact fun c => he (Prod.ext c.1 c.2)), wrap_i64 (by omega) (by omega), show (i : Int) + 1 = ((i + 1 : Nat) : Int) from rfl, show m + (l.length - i) = m + (l.length - (i + 1)) + 1 by omega]
        refine rposition_loop N s l hl p hp hp0 m (i + 1) (by omega) fun j hj' => ?_
        by_cases hji : j = i
        · subst hji
          intro c
          have := (hp j).2 c
          rw [List.getElem?_eq_getElem hi'] at this
          exact he (Option.some.inj this)
        · exact hj j (by omega)
  termination_by m i => l.length - i
theorem posI_m1 {u : U0} (s : Int × Int) (h : snd u) : posI u s < 0 → posI u s = -1 := by
  obtain ⟨⟨c1, c2⟩, c3, c4⟩ := snd_caps h
  have hs := h.2.2.1
  unfold posI
  repeat' split
  all_goals omega
theorem rposition_ok {N : Nat} (hN : 200 < N) (u : U0) (s : Int × Int) : gridmarketref24_Position.f N u s = some (if snd u then posI u s else -1, ()) := by
  unfold gridmarketref24_Position.f
  rw [rstates_ok hN]
  simp only [Option.bind_some]
  by_cases h : snd u
  · rw [if_pos h, if_pos h]
    have hl := S_len h
    have := rposition_loop N s (S u) (by omega) (posI u s) (fun j => by
      rw [S_get h]
      refine ⟨fun c => c.2, fun c => ⟨?_, c⟩⟩
      exact Decidable.byContradiction fun d => by
        have := (posI_neg h s).2 d
        omega) (posI_m1 s h) (N - (S u).length - 1) 0 (by omega) (fun j hj => by omega)
    rw [show N - (S u).length - 1 + ((S u).length - 0) + 1 = N by omega] at this
    exact this
  · rw [if_neg h, if_neg h]
    obtain ⟨k, rfl⟩ : ∃ k, N = k + 1 := ⟨N - 1, by omega⟩
    rfl
theorem ris_ok {N : Nat} (hN : 200 < N) (u : U0) (s : Int × Int) : gridmarketref24_Is.f N u s = some (decide (snd u ∧ isS u s), ()) := by
  unfold gridmarketref24_Is.f
  rw [rposition_ok hN]
  simp only [Option.bind_some]
  by_cases h : snd u
  · have := posI_neg h s
    rw [if_pos h]
    congr 2
    refine decide_eq_decide.2 ⟨fun c => ⟨h, Decidable.byContradiction fun d => by have := this.2 d; omega⟩, fun c => Decidable.byContradiction fun d => this.1 (by omega) c.2⟩
  · rw [if_neg h]
    simp [h]
end Go.Proofs.Ytfmfgomijjibgaa.Abs.T
end
