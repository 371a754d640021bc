import Derived.Laws.Bits64b
import Derived.Test.YtkadllkeekoopaaGreatFns2
set_option linter.unusedVariables false
set_option linter.unusedSimpArgs false
section
namespace Go.Proofs.YtkadllkeekoopaaGreat.Abs.Ints

theorem wrap_i64 {n : Int} (h0 : -9223372036854775808 ≤ n) (h1 : n < 9223372036854775808) : IntKind.wrap .i64 n = n := by
  show (if decide (n % (18446744073709551616 : Int) ≥ (9223372036854775808 : Int)) = true then n % (18446744073709551616 : Int) - (18446744073709551616 : Int) else n % (18446744073709551616 : Int)) = n
  split
  · rename_i h
    have h := of_decide_eq_true h
    omega
  · rename_i h
    have h : ¬ (n % 18446744073709551616 ≥ 9223372036854775808) := fun c => h (decide_eq_true c)
    omega
theorem wrap_u8 (n : Int) : IntKind.wrap .u8 n = n % 256 := by simp [IntKind.wrap, IntKind.bits, IntKind.signed]
theorem wrap_u32 (n : Int) : IntKind.wrap .u32 n = n % 4294967296 := by simp [IntKind.wrap, IntKind.bits, IntKind.signed]
theorem wrap_u8_nat (n : Nat) : IntKind.wrap .u8 (n : Int) = ((n % 256 : Nat) : Int) := by rw [wrap_u8]; rfl
theorem wrap_u32_nat (n : Nat) : IntKind.wrap .u32 (n : Int) = ((n % 4294967296 : Nat) : Int) := by rw [wrap_u32]; rfl
theorem wrap_u32_id {n : Int} (h0 : 0 ≤ n) (h1 : n < 4294967296) : IntKind.wrap .u32 n = n := by rw [wrap_u32]; omega

theorem xor_u8 (a b : Nat) (ha : a < 256) (hb : b < 256) : bits .xor .u8 (a : Int) (b : Int) = ((a ^^^ b : Nat) : Int) := by
  have hx : a ^^^ b < 2 ^ 8 := Nat.xor_lt_two_pow (by omega) (by omega)
  have h1 : (BitVec.ofInt 8 (a : Int)).toNat = a := by rw [BitVec.ofInt_natCast, BitVec.toNat_ofNat]; exact Nat.mod_eq_of_lt (by omega)
  have h2 : (BitVec.ofInt 8 (b : Int)).toNat = b := by rw [BitVec.ofInt_natCast, BitVec.toNat_ofNat]; exact Nat.mod_eq_of_lt (by omega)
  show IntKind.u8.wrap ((BitVec.ofInt 8 (a : Int) ^^^ BitVec.ofInt 8 (b : Int)).toNat : Int) = _
  rw [BitVec.toNat_xor, h1, h2, wrap_u8]
  omega
theorem xor_u32 (a b : Nat) (ha : a < 4294967296) (hb : b < 4294967296) : bits .xor .u32 (a : Int) (b : Int) = ((a ^^^ b : Nat) : Int) := by
  have hx : a ^^^ b < 2 ^ 32 := Nat.xor_lt_two_pow (by omega) (by omega)
  have h1 : (BitVec.ofInt 32 (a : Int)).toNat = a := by rw [BitVec.ofInt_natCast, BitVec.toNat_ofNat]; exact Nat.mod_eq_of_lt (by omega)
  have h2 : (BitVec.ofInt 32 (b : Int)).toNat = b := by rw [BitVec.ofInt_natCast, BitVec.toNat_ofNat]; exact Nat.mod_eq_of_lt (by omega)
  show IntKind.u32.wrap ((BitVec.ofInt 32 (a : Int) ^^^ BitVec.ofInt 32 (b : Int)).toNat : Int) = _
  rw [BitVec.toNat_xor, h1, h2, wrap_u32]
  omega
theorem and_u32 (a b : Nat) (ha : a < 4294967296) (hb : b < 4294967296) : bits .and .u32 (a : Int) (b : Int) = ((a &&& b : Nat) : Int) := by
  have hx : a &&& b < 2 ^ 32 := Nat.and_lt_two_pow _ (by omega)
  have h1 : (BitVec.ofInt 32 (a : Int)).toNat = a := by rw [BitVec.ofInt_natCast, BitVec.toNat_ofNat]; exact Nat.mod_eq_of_lt (by omega)
  have h2 : (BitVec.ofInt 32 (b : Int)).toNat = b := by rw [BitVec.ofInt_natCast, BitVec.toNat_ofNat]; exact Nat.mod_eq_of_lt (by omega)
  show IntKind.u32.wrap ((BitVec.ofInt 32 (a : Int) &&& BitVec.ofInt 32 (b : Int)).toNat : Int) = _
  rw [BitVec.toNat_and, h1, h2, wrap_u32]
  omega
theorem or_u32 (a b : Nat) (ha : a < 4294967296) (hb : b < 4294967296) : bits .or .u32 (a : Int) (b : Int) = ((a ||| b : Nat) : Int) := by
  have hx : a ||| b < 2 ^ 32 := Nat.or_lt_two_pow (by omega) (by omega)
  have h1 : (BitVec.ofInt 32 (a : Int)).toNat = a := by rw [BitVec.ofInt_natCast, BitVec.toNat_ofNat]; exact Nat.mod_eq_of_lt (by omega)
  have h2 : (BitVec.ofInt 32 (b : Int)).toNat = b := by rw [BitVec.ofInt_natCast, BitVec.toNat_ofNat]; exact Nat.mod_eq_of_lt (by omega)
  show IntKind.u32.wrap ((BitVec.ofInt 32 (a : Int) ||| BitVec.ofInt 32 (b : Int)).toNat : Int) = _
  rw [BitVec.toNat_or, h1, h2, wrap_u32]
  omega
end Go.Proofs.YtkadllkeekoopaaGreat.Abs.Ints
end

section
namespace Go.Proofs.YtkadllkeekoopaaGreat.Abs.BN

/-! ## From some number on -/
def Ev (p : Nat → Prop) : Prop := ∃ n0, ∀ n, n0 ≤ n → p n
theorem Ev.and {p q : Nat → Prop} (h : Ev p) (k : Ev q) : Ev fun n => p n ∧ q n := by
  obtain ⟨a, h⟩ := h
  obtain ⟨b, k⟩ := k
  exact ⟨max a b, fun n hn => ⟨h n (by omega), k n (by omega)⟩⟩
theorem Ev.mono {p q : Nat → Prop} (h : Ev p) (k : ∀ n, p n → q n) : Ev q := h.imp fun _ h n hn => k n (h n hn)
theorem Ev.ge (k : Nat) : Ev fun n => k ≤ n := ⟨k, fun _ h => h⟩
theorem Ev.of {p : Nat → Prop} (h : ∀ n, p n) : Ev p := ⟨0, fun n _ => h n⟩
theorem Ev.ex {p : Nat → Prop} (h : Ev p) : ∃ n, p n := by
  obtain ⟨a, h⟩ := h
  exact ⟨a, h a (Nat.le_refl _)⟩

/-! ## Numbers as lists of limbs, the least first -/
def val : List Int → Nat
  | [] => 0
  | x :: r => x.toNat + 4294967296 * val r
def U (xs : List Int) : Prop := ∀ x ∈ xs, 0 ≤ x ∧ x < 4294967296
def lim (n : Nat) : List Int := if n = 0 then [] else ((n % 4294967296 : Nat) : Int) :: lim (n / 4294967296)
  termination_by n
  decreasing_by omega

theorem lim_zero : lim 0 = [] := by rw [lim]; simp
theorem lim_pos {n : Nat} (h : 0 < n) : lim n = ((n % 4294967296 : Nat) : Int) :: lim (n / 4294967296) := by rw [lim, if_neg (by omega)]
theorem V_lim (n : Nat) : val (lim n) = n := by
  induction n using Nat.strongRecOn with
  | ind n ih =>
    by_cases h : n = 0
    · subst h; rw [lim_zero]; rfl
    · rw [lim_pos (by omega)]
      show _ + 4294967296 * val (lim (n / 4294967296)) = n
      rw [ih _ (by omega)]
      omega
theorem U_lim (n : Nat) : U (lim n) := by
  induction n using Nat.strongRecOn with
  | ind n ih =>
    by_cases h : n = 0
    · subst h; rw [lim_zero]; intro x hx; cases hx
    · rw [lim_pos (by omega)]
      intro x hx
      rcases List.mem_cons.1 hx with rfl | hx
      · omega
      · exact ih _ (by omega) x hx
theorem U.nil : U [] := fun x hx => by cases hx
theorem U.cons {x : Int} {r : List Int} (h0 : 0 ≤ x) (h1 : x < 4294967296) (h : U r) : U (x :: r) := fun y hy => by
  rcases List.mem_cons.1 hy with rfl | hy
  · exact ⟨h0, h1⟩
  · exact h y hy
theorem U.sub {a b : List Int} (h : U a) (hs : ∀ x ∈ b, x ∈ a) : U b := fun x hx => h x (hs x hx)
theorem U.take {a : List Int} (h : U a) (k : Nat) : U (a.take k) := h.sub fun _ => List.mem_of_mem_take
theorem U.drop {a : List Int} (h : U a) (k : Nat) : U (a.drop k) := h.sub fun _ => List.mem_of_mem_drop
theorem U.app {a b : List Int} (h : U a) (k : U b) : U (a ++ b) := fun x hx => (List.mem_append.1 hx).elim (h x) (k x)
theorem U.rep (n : Nat) : U (List.replicate n (0 : Int)) := fun x hx => by rw [List.eq_of_mem_replicate hx]; omega
theorem U.set {a : List Int} (h : U a) {i : Nat} {y : Int} (h0 : 0 ≤ y) (h1 : y < 4294967296) : U (a.set i y) := fun x hx => by
  rcases List.mem_or_eq_of_mem_set hx with hx | rfl
  · exact h x hx
  · exact ⟨h0, h1⟩
theorem U.at {a : List Int} (h : U a) (i : Nat) : 0 ≤ a.getD i 0 ∧ a.getD i 0 < 4294967296 := by
  rw [List.getD_eq_getElem?_getD]
  cases hi : a[i]? with
  | none => simp
  | some x => exact h x (List.mem_of_getElem? hi)
theorem V_append : ∀ (a b : List Int), val (a ++ b) = val a + 4294967296 ^ a.length * val b
  | [], b => by simp [val]
  | x :: r, b => by
    show x.toNat + 4294967296 * val (r ++ b) = x.toNat + 4294967296 * val r + 4294967296 ^ (r.length + 1) * val b
    rw [V_append r b, Nat.pow_succ]
    grind
theorem V_lt : ∀ {a : List Int}, U a → val a < 4294967296 ^ a.length
  | [], _ => by simp [val]
  | x :: r, h => by
    have := V_lt (a := r) (h.sub fun _ => List.mem_cons_of_mem _)
    have hx := h x List.mem_cons_self
    show x.toNat + 4294967296 * val r < 4294967296 ^ (r.length + 1)
    rw [Nat.pow_succ]
    omega
theorem V_rep : ∀ (n : Nat), val (List.replicate n (0 : Int)) = 0
  | 0 => rfl
  | n + 1 => by
    rw [List.replicate_succ]
    show (0 : Int).toNat + 4294967296 * val (List.replicate n 0) = 0
    rw [V_rep n]
    rfl
/-- One limb more. -/
theorem V_succ : ∀ (a : List Int) (i : Nat), val (a.take (i + 1)) = val (a.take i) + (a.getD i 0).toNat * 4294967296 ^ i
  | [], i => by simp [val]
  | x :: r, 0 => by simp [val]
  | x :: r, i + 1 => by
    show x.toNat + 4294967296 * val (r.take (i + 1)) = x.toNat + 4294967296 * val (r.take i) + _
    rw [V_succ r i, Nat.pow_succ]
    simp only [List.getD_cons_succ]
    grind
theorem V_set {a : List Int} {i : Nat} (h : i < a.length) (y : Int) : val ((a.set i y).take (i + 1)) = val (a.take i) + y.toNat * 4294967296 ^ i := by
  rw [V_succ, List.take_set_of_le (Nat.le_refl i), List.getD_eq_getElem?_getD, List.getElem?_set_self h]
  rfl
theorem V_all {a : List Int} {k : Nat} (h : a.length ≤ k) : val (a.take k) = val a := by rw [List.take_of_length_le h]
theorem V_take_le (a : List Int) (k : Nat) : val (a.take k) ≤ val a := by
  conv => rhs; rw [← List.take_append_drop k a, V_append]
  omega
theorem V_split (a : List Int) (k : Nat) (h : k ≤ a.length) : val a = val (a.take k) + 4294967296 ^ k * val (a.drop k) := by
  conv => lhs; rw [← List.take_append_drop k a, V_append]
  rw [List.length_take, Nat.min_eq_left h]
theorem V_drop (a : List Int) (k : Nat) (h : k < a.length) : val (a.drop k) = (a.getD k 0).toNat + 4294967296 * val (a.drop (k + 1)) := by
  rw [List.drop_eq_getElem_cons h, List.getD_eq_getElem?_getD, List.getElem?_eq_getElem h]
  rfl
theorem V_zero {a : List Int} (h : ∀ i, a.getD i 0 = 0) : val a = 0 := by
  induction a with
  | nil => rfl
  | cons x r ih =>
    have h0 := h 0
    simp only [List.getD_cons_zero] at h0
    show x.toNat + 4294967296 * val r = 0
    rw [ih fun i => by have := h (i + 1); simpa using this, h0]
    rfl
theorem V_pos {a : List Int} (hu : U a) {i : Nat} (h : a.getD i 0 ≠ 0) : 0 < val a := by
  have h1 := V_succ a i
  have h2 := V_take_le a (i + 1)
  have h3 := hu.at i
  have h4 : 0 < (a.getD i 0).toNat * 4294967296 ^ i := Nat.mul_pos (by omega) (Nat.pow_pos (by omega))
  omega
/-- Without its trailing zeros a list is that of its value. -/
theorem take_lim : ∀ {a : List Int} {k : Nat}, U a → (∀ j, k ≤ j → a.getD j 0 = 0) → (k = 0 ∨ a.getD (k - 1) 0 ≠ 0) → a.take k = lim (val a)
  | [], k, _, _, hk => by
    rw [List.take_nil]
    show [] = lim 0
    rw [lim_zero]
  | x :: r, 0, hu, hz, _ => by
    rw [V_zero fun i => hz i (Nat.zero_le i), lim_zero]
    rfl
  | x :: r, k + 1, hu, hz, hk => by
    have hx := hu x List.mem_cons_self
    have hr : U r := hu.sub fun _ => List.mem_cons_of_mem _
    have hz' : ∀ j, k ≤ j → r.getD j 0 = 0 := fun j hj => by have := hz (j + 1) (by omega); simpa using this
    have hne := hk.resolve_left (by omega)
    simp only [Nat.add_sub_cancel] at hne
    have hpos : 0 < x.toNat + 4294967296 * val r ∧ (k = 0 ∨ r.getD (k - 1) 0 ≠ 0) := by
      cases k with
      | zero =>
        simp only [List.getD_cons_zero] at hne
        exact ⟨by omega, .inl rfl⟩
      | succ k =>
        simp only [List.getD_cons_succ] at hne
        have := V_pos hr hne
        exact ⟨by omega, .inr hne⟩
    have ih := take_lim (a := r) (k := k) hr hz' hpos.2
    show x :: r.take k = lim (x.toNat + 4294967296 * val r)
    rw [lim_pos hpos.1, ih, show (x.toNat + 4294967296 * val r) / 4294967296 = val r by omega]
    congr 1
    omega
theorem lim_len_le : ∀ {k n : Nat}, n < 4294967296 ^ k → (lim n).length ≤ k
  | 0, n, h => by
    have : n = 0 := by simpa using h
    subst this
    rw [lim_zero]
    exact Nat.le_refl _
  | k + 1, n, h => by
    by_cases hn : n = 0
    · subst hn; rw [lim_zero]; simp
    · rw [lim_pos (by omega), List.length_cons]
      have : n / 4294967296 < 4294967296 ^ k := Nat.div_lt_of_lt_mul (by rw [Nat.pow_succ] at h; rw [Nat.mul_comm]; exact h)
      have := lim_len_le this
      omega
theorem lim_len_ge : ∀ {n : Nat}, 0 < n → 4294967296 ^ ((lim n).length - 1) ≤ n := by
  intro n
  induction n using Nat.strongRecOn with
  | ind n ih =>
    intro h
    rw [lim_pos h, List.length_cons, Nat.add_sub_cancel]
    by_cases hn : n / 4294967296 = 0
    · rw [hn, lim_zero]
      simp only [List.length_nil, Nat.pow_zero]
      omega
    · have := ih (n / 4294967296) (by omega) (by omega)
      obtain ⟨m, hm⟩ : ∃ m, (lim (n / 4294967296)).length = m + 1 := by
        rw [lim_pos (by omega), List.length_cons]
        exact ⟨_, rfl⟩
      rw [hm] at this ⊢
      rw [Nat.add_sub_cancel] at this
      rw [Nat.pow_succ]
      omega
theorem lim_nil {n : Nat} : lim n = [] ↔ n = 0 := by
  constructor
  · intro h
    by_cases hn : n = 0
    · exact hn
    · rw [lim_pos (by omega)] at h; cases h
  · rintro rfl
    exact lim_zero
theorem lim_len_zero {n : Nat} : (lim n).length = 0 ↔ n = 0 := by rw [List.length_eq_zero_iff]; exact lim_nil
theorem lim_inj {a b : Nat} (h : lim a = lim b) : a = b := by rw [← V_lim a, h, V_lim]
/-- The length by two powers. -/
theorem pow_B (k : Nat) : 4294967296 ^ k = 2 ^ (32 * k) := by rw [show (4294967296 : Nat) = 2 ^ 32 from rfl, Nat.pow_mul]
theorem lim_len_bits {n b : Nat} (h : n < 2 ^ b) : (lim n).length ≤ b / 32 + 1 := by
  refine lim_len_le (Nat.lt_of_lt_of_le h ?_)
  rw [pow_B]
  exact Nat.pow_le_pow_right (by omega) (by omega)
/-- A canonical list's last limb. -/
theorem lim_last {n : Nat} (h : 0 < n) : (lim n).getD ((lim n).length - 1) 0 ≠ 0 := by
  induction n using Nat.strongRecOn with
  | ind n ih =>
    rw [lim_pos h, List.length_cons, Nat.add_sub_cancel]
    by_cases hn : n / 4294967296 = 0
    · rw [hn, lim_zero]
      simp only [List.length_nil, List.getD_cons_zero]
      omega
    · obtain ⟨m, hm⟩ : ∃ m, (lim (n / 4294967296)).length = m + 1 := by
        rw [lim_pos (by omega), List.length_cons]
        exact ⟨_, rfl⟩
      have := ih (n / 4294967296) (by omega) (by omega)
      rw [hm] at this ⊢
      simpa using this
theorem cmp_len {a b : Nat} (h : (lim a).length < (lim b).length) : a < b := by
  have hb : 0 < b := by
    rcases Nat.eq_zero_or_pos b with rfl | h'
    · rw [lim_zero] at h; cases h
    · exact h'
  have h1 := lim_len_ge hb
  have h2 := V_lt (U_lim a)
  rw [V_lim] at h2
  have : 4294967296 ^ (lim a).length ≤ 4294967296 ^ ((lim b).length - 1) := Nat.pow_le_pow_right (by omega) (by omega)
  omega
theorem lim_len_mono {a b : Nat} (h : a ≤ b) : (lim a).length ≤ (lim b).length := by
  rcases Nat.lt_or_ge (lim b).length (lim a).length with hlt | hge
  · have := cmp_len hlt
    omega
  · exact hge
end Go.Proofs.YtkadllkeekoopaaGreat.Abs.BN
end

section
namespace Go.Proofs.YtkadllkeekoopaaGreat.Abs.BN
open Go.Proofs.YtkadllkeekoopaaGreat.Abs.Ints

theorem w64 {n : Int} (h0 : 0 ≤ n) (h1 : n < 18446744073709551616) : IntKind.wrap .u64 n = n := by
  have : IntKind.wrap .u64 n = n % 18446744073709551616 := by simp [IntKind.wrap, IntKind.bits, IntKind.signed]
  rw [this]; omega
theorem w64m (n : Int) : IntKind.wrap .u64 n = n % 18446744073709551616 := by simp [IntKind.wrap, IntKind.bits, IntKind.signed]
theorem wi {n : Int} (h0 : -9223372036854775808 ≤ n) (h1 : n < 9223372036854775808) : IntKind.wrap .i64 n = n := wrap_i64 h0 h1
theorem w32 {n : Int} (h0 : 0 ≤ n) (h1 : n < 4294967296) : IntKind.wrap .u32 n = n := wrap_u32_id h0 h1
theorem w32m (n : Int) : IntKind.wrap .u32 n = n % 4294967296 := wrap_u32 n
theorem or64 {a b : Int} (ha : 0 ≤ a) (hb : 0 ≤ b) (hb2 : b < 4294967296) (ha2 : a < 18446744073709551616) (hd : a % 4294967296 = 0) : Go.bits .or .u64 a b = a + b := by
  obtain ⟨x, rfl⟩ := Int.eq_ofNat_of_zero_le ha
  obtain ⟨y, rfl⟩ := Int.eq_ofNat_of_zero_le hb
  have hor : x ||| y = x + y := by
    have e : x = 2 ^ 32 * (x / 2 ^ 32) := by omega
    rw [e, Nat.two_pow_add_eq_or_of_lt (show y < 2 ^ 32 by omega)]
  have h1 : (BitVec.ofInt 64 (x : Int)).toNat = x := by rw [BitVec.ofInt_natCast, BitVec.toNat_ofNat]; exact Nat.mod_eq_of_lt (by omega)
  have h2 : (BitVec.ofInt 64 (y : Int)).toNat = y := by rw [BitVec.ofInt_natCast, BitVec.toNat_ofNat]; exact Nat.mod_eq_of_lt (by omega)
  show IntKind.u64.wrap ((BitVec.ofInt 64 (x : Int) ||| BitVec.ofInt 64 (y : Int)).toNat : Int) = _
  rw [BitVec.toNat_or, h1, h2, hor, w64 (by omega) (by omega)]
  omega
theorem or64' {a b : Int} (ha : 0 ≤ a) (hb : 0 ≤ b) (ha2 : a < 4294967296) (hb2 : b < 18446744073709551616) (hd : b % 4294967296 = 0) : Go.bits .or .u64 a b = a + b := by
  obtain ⟨x, rfl⟩ := Int.eq_ofNat_of_zero_le ha
  obtain ⟨y, rfl⟩ := Int.eq_ofNat_of_zero_le hb
  have hor : x ||| y = x + y := by
    have e : y = 2 ^ 32 * (y / 2 ^ 32) := by omega
    rw [Nat.or_comm, Nat.add_comm]
    conv => lhs; rw [e, ← Nat.two_pow_add_eq_or_of_lt (show x < 2 ^ 32 by omega)]
    omega
  have h1 : (BitVec.ofInt 64 (x : Int)).toNat = x := by rw [BitVec.ofInt_natCast, BitVec.toNat_ofNat]; exact Nat.mod_eq_of_lt (by omega)
  have h2 : (BitVec.ofInt 64 (y : Int)).toNat = y := by rw [BitVec.ofInt_natCast, BitVec.toNat_ofNat]; exact Nat.mod_eq_of_lt (by omega)
  show IntKind.u64.wrap ((BitVec.ofInt 64 (x : Int) ||| BitVec.ofInt 64 (y : Int)).toNat : Int) = _
  rw [BitVec.toNat_or, h1, h2, hor, w64 (by omega) (by omega)]
  omega
theorem or32z (b : Int) (hb : 0 ≤ b) (hb2 : b < 4294967296) : Go.bits .or .u32 0 b = b := by
  obtain ⟨y, rfl⟩ := Int.eq_ofNat_of_zero_le hb
  have := or_u32 0 y (by omega) (by omega)
  rw [Nat.zero_or] at this
  exact this

/-- A list that may have come in. -/
structure L (a : List Int) : Prop where
  u : U a
  len : a.length < 35184372088832
theorem L.lim {n : Nat} (h : (lim n).length < 35184372088832) : L (lim n) := ⟨U_lim n, h⟩
/-- A number of moderate length. -/
def Sm (n : Nat) : Prop := (lim n).length ≤ 1099511627776
theorem Sm.lim {n : Nat} (h : Sm n) : L (BN.lim n) := ⟨U_lim n, by unfold Sm at h; omega⟩
theorem Sm.mono {m n : Nat} (h : Sm n) (hm : m ≤ n) : Sm m := Nat.le_trans (lim_len_mono hm) h
theorem Sm.bits {n b : Nat} (h : n < 2 ^ b) (hb : b ≤ 35184372088800) : Sm n := by
  have := lim_len_bits h
  unfold Sm
  omega
theorem lim_lt_pow (n : Nat) : n < 4294967296 ^ (lim n).length := by
  have := V_lt (U_lim n)
  rwa [V_lim] at this
theorem le_pow {i j : Nat} (h : i ≤ j) : 4294967296 ^ i ≤ 4294967296 ^ j := Nat.pow_le_pow_right (by omega) h
theorem pow_pos' (i : Nat) : 0 < 4294967296 ^ i := Nat.pow_pos (by omega)
def cmpN (a b : Nat) : Int := if a < b then -1 else if a = b then 0 else 1
theorem V_take_lt {a : List Int} (h : U a) (i : Nat) : val (a.take i) < 4294967296 ^ i := by
  have h1 := V_lt (h.take i)
  exact Nat.lt_of_lt_of_le h1 (le_pow (by rw [List.length_take]; omega))
theorem lout {a : List Int} {i : Nat} (h : a.length ≤ i) : a.getD i 0 = 0 := by
  rw [List.getD_eq_getElem?_getD, List.getElem?_eq_none h]; rfl
theorem lin {a : List Int} {i : Nat} (h : i < a.length) : a.getD i 0 = a[i] := by
  rw [List.getD_eq_getElem?_getD, List.getElem?_eq_getElem h]; rfl
theorem lset_self {a : List Int} {i : Nat} (h : i < a.length) (y : Int) : (a.set i y).getD i 0 = y := by
  rw [List.getD_eq_getElem?_getD, List.getElem?_set_self h]; rfl
theorem lset_ne {a : List Int} {i j : Nat} (h : i ≠ j) (y : Int) : (a.set i y).getD j 0 = a.getD j 0 := by
  rw [List.getD_eq_getElem?_getD, List.getElem?_set_ne h, ← List.getD_eq_getElem?_getD]
theorem i2n (i : Nat) : ((i : Int)).toNat = i := rfl
theorem p32 : (2 : Int) ^ 32 = 4294967296 := by decide
theorem p63 : (2 : Int) ^ 63 = 9223372036854775808 := by decide
theorem cast1 (i : Nat) : (i : Int) + 1 = ((i + 1 : Nat) : Int) := rfl
end Go.Proofs.YtkadllkeekoopaaGreat.Abs.BN
end

section
namespace Go.Proofs.YtkadllkeekoopaaGreat.Abs.BN
open Go.Proofs.YtkadllkeekoopaaGreat.Abs.Ints

theorem V_upd {a : List Int} {p : Nat} (h : p < a.length) (y : Int) : val (a.set p y) + (a.getD p 0).toNat * 4294967296 ^ p = val a + y.toNat * 4294967296 ^ p := by
  have h1 := V_split (a.set p y) (p + 1) (by rw [List.length_set]; omega)
  have h2 := V_split a (p + 1) (by omega)
  rw [V_set h, List.drop_set_of_lt (by omega)] at h1
  rw [V_succ] at h2
  omega
theorem V_set_drop {a : List Int} {i : Nat} (h : i < a.length) (y : Int) : val ((a.set i y).drop i) = y.toNat + 4294967296 * val (a.drop (i + 1)) := by
  rw [V_drop _ i (by rw [List.length_set]; exact h), lset_self h, List.drop_set_of_lt (by omega)]
theorem V_drop_lt {a : List Int} {n : Nat} (h : val a < 4294967296 ^ n) : val (a.take n) = val a := by
  by_cases hl : a.length ≤ n
  · exact V_all hl
  · have := V_split a n (by omega)
    rcases Nat.eq_zero_or_pos (val (a.drop n)) with hz | hp
    · rw [hz] at this
      omega
    · have : 4294967296 ^ n * 1 ≤ 4294967296 ^ n * val (a.drop n) := Nat.mul_le_mul_left _ hp
      omega
theorem mul_bound {x y : Int} (hx : 0 ≤ x ∧ x < 4294967296) (hy : 0 ≤ y ∧ y < 4294967296) : 0 ≤ x * y ∧ x * y ≤ 18446744065119617025 := by
  refine ⟨Int.mul_nonneg hx.1 hy.1, ?_⟩
  have h1 : x * y ≤ 4294967295 * y := Int.mul_le_mul_of_nonneg_right (by omega) hy.1
  omega
theorem nat_of {x : Int} (h : 0 ≤ x) : ∃ n : Nat, x = (n : Int) := Int.eq_ofNat_of_zero_le h
theorem at_nat {a : List Int} (h : U a) (i : Nat) : ∃ n : Nat, a.getD i 0 = (n : Int) ∧ n < 4294967296 := by
  have := h.at i
  exact ⟨(a.getD i 0).toNat, by omega, by omega⟩
theorem drop_zero_val {a : List Int} {n : Nat} (h : val a < 4294967296 ^ n) : val (a.drop n) = 0 := by
  by_cases hl : a.length ≤ n
  · rw [List.drop_eq_nil_of_le hl]; rfl
  · have h1 := V_split a n (by omega)
    rw [V_drop_lt h] at h1
    have : 4294967296 ^ n * val (a.drop n) = 0 := by omega
    rcases Nat.mul_eq_zero.1 this with h2 | h2
    · have := pow_pos' n
      omega
    · exact h2
end Go.Proofs.YtkadllkeekoopaaGreat.Abs.BN
end

section
namespace Go.Proofs.YtkadllkeekoopaaGreat.Abs.BN
open Go.Proofs.YtkadllkeekoopaaGreat.Abs.Ints

theorem or32 {h l s : Nat} (hh : h < 2 ^ s) (hl : l % 2 ^ s = 0) (h1 : h < 4294967296) (h2 : l < 4294967296) : Go.bits .or .u32 (h : Int) (l : Int) = ((h + l : Nat) : Int) := by
  rw [or_u32 h l h1 h2]
  have e : l = 2 ^ s * (l / 2 ^ s) := by
    have := Nat.div_add_mod l (2 ^ s)
    omega
  rw [Nat.or_comm, Nat.add_comm h l]
  conv => lhs; rw [e, ← Nat.two_pow_add_eq_or_of_lt hh]
  rw [← e]
/-- Shifts by fewer than 32 digits: 2^s and 2^(32-s). -/
theorem shift_pair {s : Nat} (h : s ≤ 31) : 2 ^ s * 2 ^ (32 - s) = 4294967296 ∧ 2 ^ s ≤ 2147483648 := by
  refine ⟨?_, ?_⟩
  · rw [← Nat.pow_add, show s + (32 - s) = 32 by omega]
  · have := Nat.pow_le_pow_right (n := 2) (by omega) h
    simpa using this
theorem shl_parts {x S T : Nat} (hST : S * T = 4294967296) (hx : x < 4294967296) (hS : 0 < S) : (x * S) % 4294967296 % S = 0 ∧ (x * S) / 4294967296 < S ∧ x * S < 18446744073709551616 := by
  refine ⟨?_, ?_, ?_⟩
  · rw [← hST, Nat.mod_mul_right_mod, Nat.mul_mod_left]
  · exact Nat.div_lt_of_lt_mul (by rw [Nat.mul_comm x S, Nat.mul_comm]; exact Nat.mul_lt_mul_of_pos_right hx hS)
  · have hT : 0 < T := by
      rcases Nat.eq_zero_or_pos T with rfl | h
      · omega
      · exact h
    have h1 : S ≤ 4294967296 := by
      have : S * 1 ≤ S * T := Nat.mul_le_mul_left _ hT
      omega
    have : x * S ≤ 4294967295 * 4294967296 := Nat.mul_le_mul (by omega) h1
    omega
theorem shr_parts {x y S T : Nat} (hST : S * T = 4294967296) (hx : x < 4294967296) (hS : 0 < S) : (x + y * 4294967296) / S % 4294967296 * S + x % S = x + (y % S) * 4294967296 := by
  have hT : 0 < T := by
    rcases Nat.eq_zero_or_pos T with rfl | h
    · omega
    · exact h
  have e1 : (x + y * 4294967296) / S = x / S + y * T := by
    rw [← hST, show x + y * (S * T) = x + S * (y * T) by grind, Nat.add_mul_div_left _ _ hS]
  have hxs : x / S < T := Nat.div_lt_of_lt_mul (by omega)
  have ey := Nat.div_add_mod y S
  have ex := Nat.div_add_mod x S
  have hys := Nat.mod_lt y hS
  have e2 : x / S + y * T = (x / S + (y % S) * T) + 4294967296 * (y / S) := by
    rw [← hST]
    conv => lhs; rw [← ey]
    grind
  have hlt : x / S + (y % S) * T < 4294967296 := by
    have : (y % S + 1) * T ≤ S * T := Nat.mul_le_mul_right _ (by omega)
    rw [Nat.add_mul, Nat.one_mul, hST] at this
    omega
  rw [e1, e2, Nat.add_mul_mod_self_left, Nat.mod_eq_of_lt hlt]
  have e3 : (x / S + (y % S) * T) * S = S * (x / S) + (y % S) * (S * T) := by grind
  rw [e3, hST]
  omega
end Go.Proofs.YtkadllkeekoopaaGreat.Abs.BN
end

section
namespace Go.Proofs.YtkadllkeekoopaaGreat.Abs.BN
open Go.Proofs.YtkadllkeekoopaaGreat.Abs.Ints
set_option maxRecDepth 10000

/-- A division's next digit. -/
structure Est (top sec u2 u1 u0 P v' w' vv W : Nat) : Prop where
  top1 : 2147483648 ≤ top
  top2 : top < 4294967296
  sec2 : sec < 4294967296
  u0b : u0 < 4294967296
  u1b : u1 < 4294967296
  P0 : 0 < P
  vb : v' < P
  wb : w' < P
  hv : vv = (top * 4294967296 + sec) * P + v'
  hW : W = ((u2 * 4294967296 + u1) * 4294967296 + u0) * P + w'
  lt : W < 4294967296 * vv
variable {top sec u2 u1 u0 P v' w' vv W : Nat}
theorem Est.vv0 (E : Est top sec u2 u1 u0 P v' w' vv W) : 0 < vv := by
  rcases Nat.eq_zero_or_pos vv with h | h
  · have := E.lt; rw [h] at this; omega
  · exact h
theorem Est.vvlt (E : Est top sec u2 u1 u0 P v' w' vv W) : vv < (top + 1) * 4294967296 * P := by
  have h1 : (sec + 1) * P ≤ 4294967296 * P := Nat.mul_le_mul_right _ E.sec2
  have := E.vb
  rw [E.hv]
  have e1 : (top * 4294967296 + sec) * P = top * 4294967296 * P + sec * P := Nat.add_mul ..
  have e2 : (top + 1) * 4294967296 * P = top * 4294967296 * P + 4294967296 * P := by grind
  have e3 : (sec + 1) * P = sec * P + P := by grind
  omega
theorem Est.vvge (E : Est top sec u2 u1 u0 P v' w' vv W) : top * 4294967296 * P ≤ vv := by
  rw [E.hv, Nat.add_mul]
  omega
theorem Est.Wlt (E : Est top sec u2 u1 u0 P v' w' vv W) : W < ((u2 * 4294967296 + u1) * 4294967296 + u0 + 1) * P := by
  have := E.wb
  rw [E.hW, Nat.add_mul (((u2 * 4294967296 + u1) * 4294967296 + u0))]
  omega
theorem Est.Wlt' (E : Est top sec u2 u1 u0 P v' w' vv W) : W < (u2 * 4294967296 + u1 + 1) * 4294967296 * P := by
  have h := E.Wlt
  have h1 : ((u2 * 4294967296 + u1) * 4294967296 + u0 + 1) * P ≤ ((u2 * 4294967296 + u1 + 1) * 4294967296) * P := Nat.mul_le_mul_right _ (by have := E.u0b; omega)
  omega
theorem Est.Wge (E : Est top sec u2 u1 u0 P v' w' vv W) : ((u2 * 4294967296 + u1) * 4294967296 + u0) * P ≤ W := by rw [E.hW]; omega
theorem Est.u2le (E : Est top sec u2 u1 u0 P v' w' vv W) : u2 ≤ top := by
  have h1 := E.lt
  have h2 := E.vvlt
  have h3 := E.Wge
  have h4 : u2 * 4294967296 * (4294967296 * P) ≤ ((u2 * 4294967296 + u1) * 4294967296 + u0) * P := by
    have e : u2 * 4294967296 * (4294967296 * P) = (u2 * 4294967296 * 4294967296) * P := by grind
    rw [e]
    have h0 : u2 * 4294967296 * 4294967296 ≤ (u2 * 4294967296 + u1) * 4294967296 + u0 := by clear h1 h2 h3 e E; omega
    exact Nat.mul_le_mul_right P h0
  have h5 : u2 * 4294967296 * (4294967296 * P) < (top + 1) * 4294967296 * (4294967296 * P) := by
    have e : (top + 1) * 4294967296 * (4294967296 * P) = 4294967296 * ((top + 1) * 4294967296 * P) := by grind
    omega
  have := Nat.lt_of_mul_lt_mul_right h5
  omega
theorem Est.dec (E : Est top sec u2 u1 u0 P v' w' vv W) {g r : Nat} (h : g * top + r = u2 * 4294967296 + u1) (hc : 4294967296 ≤ g ∨ r * 4294967296 + (u0 + 1) ≤ g * sec) : W / vv < g := by
  rw [Nat.div_lt_iff_lt_mul E.vv0]
  rcases hc with hc | hc
  · have : 4294967296 * vv ≤ g * vv := Nat.mul_le_mul_right _ hc
    have := E.lt
    omega
  · have h1 : (u2 * 4294967296 + u1) * 4294967296 + u0 + 1 ≤ g * (top * 4294967296 + sec) := by
      have e : g * (top * 4294967296 + sec) = g * top * 4294967296 + g * sec := by rw [Nat.mul_add, Nat.mul_assoc]
      rw [e, ← h, Nat.add_mul, Nat.add_assoc, Nat.add_assoc]
      exact Nat.add_le_add_left hc _
    have h2 : ((u2 * 4294967296 + u1) * 4294967296 + u0 + 1) * P ≤ g * (top * 4294967296 + sec) * P := Nat.mul_le_mul_right _ h1
    have h3 : g * (top * 4294967296 + sec) * P ≤ g * vv := by
      rw [Nat.mul_assoc]
      refine Nat.mul_le_mul_left _ ?_
      rw [E.hv]
      exact Nat.le_add_right _ _
    have := E.Wlt
    omega
theorem Est.done1 (E : Est top sec u2 u1 u0 P v' w' vv W) {g r : Nat} (h : g * top + r = u2 * 4294967296 + u1) (hg : g < 4294967296) (hc : g * sec ≤ r * 4294967296 + u0) : g ≤ W / vv + 1 := by
  have h1 : g * (top * 4294967296 + sec) ≤ (u2 * 4294967296 + u1) * 4294967296 + u0 := by
    have e : g * (top * 4294967296 + sec) = g * top * 4294967296 + g * sec := by grind
    rw [e, ← h]
    omega
  have h2 : g * (top * 4294967296 + sec) * P ≤ ((u2 * 4294967296 + u1) * 4294967296 + u0) * P := Nat.mul_le_mul_right _ h1
  have h3 : g * v' ≤ 4294967296 * P := Nat.mul_le_mul (by omega) (Nat.le_of_lt E.vb)
  have h4 : 4294967296 * P ≤ vv := by
    have := E.vvge
    have h5 : 1 * (4294967296 * P) ≤ top * (4294967296 * P) := Nat.mul_le_mul_right _ (by have := E.top1; omega)
    have e : top * (4294967296 * P) = top * 4294967296 * P := by grind
    omega
  have h6 : g * vv ≤ W + vv := by
    have e : g * vv = g * (top * 4294967296 + sec) * P + g * v' := by rw [E.hv]; grind
    have := E.Wge
    omega
  have h7 : g ≤ (W + vv) / vv := (Nat.le_div_iff_mul_le E.vv0).2 h6
  rwa [Nat.add_div_right _ E.vv0] at h7
theorem Est.done2 (E : Est top sec u2 u1 u0 P v' w' vv W) {g r : Nat} (h : g * top + r = u2 * 4294967296 + u1) (hg : g ≤ 4294967296) (hr : 4294967296 ≤ r) : g ≤ W / vv := by
  rw [Nat.le_div_iff_mul_le E.vv0]
  have h1 : g * vv ≤ g * ((top + 1) * 4294967296 * P) := Nat.mul_le_mul_left _ (Nat.le_of_lt E.vvlt)
  have h2 : g * ((top + 1) * 4294967296 * P) = (g * top + g) * (4294967296 * P) := by grind
  have h3 : (g * top + g) * (4294967296 * P) ≤ (u2 * 4294967296 + u1) * (4294967296 * P) := Nat.mul_le_mul_right _ (by omega)
  have h4 : (u2 * 4294967296 + u1) * (4294967296 * P) ≤ ((u2 * 4294967296 + u1) * 4294967296 + u0) * P := by
    have e : (u2 * 4294967296 + u1) * (4294967296 * P) = (u2 * 4294967296 + u1) * 4294967296 * P := by grind
    rw [e]
    exact Nat.mul_le_mul_right _ (by omega)
  have := E.Wge
  omega
theorem Est.start (E : Est top sec u2 u1 u0 P v' w' vv W) : W / vv ≤ (u2 * 4294967296 + u1) / top ∧ (u2 * 4294967296 + u1) / top ≤ 4294967297 := by
  have ht : 0 < top := by have := E.top1; omega
  refine ⟨?_, ?_⟩
  · rw [Nat.le_div_iff_mul_le ht]
    have h1 : W / vv * vv ≤ W := Nat.div_mul_le_self ..
    have h2 : W / vv * (top * 4294967296 * P) ≤ W / vv * vv := Nat.mul_le_mul_left _ E.vvge
    have h3 := E.Wlt'
    have h4 : W / vv * top * (4294967296 * P) < (u2 * 4294967296 + u1 + 1) * (4294967296 * P) := by
      have e1 : W / vv * (top * 4294967296 * P) = W / vv * top * (4294967296 * P) := by grind
      have e2 : (u2 * 4294967296 + u1 + 1) * 4294967296 * P = (u2 * 4294967296 + u1 + 1) * (4294967296 * P) := by grind
      omega
    have := Nat.lt_of_mul_lt_mul_right h4
    omega
  · have h1 := E.u2le
    have h2 := E.top1
    have h3 := E.u1b
    have : u2 * 4294967296 + u1 ≤ top * 4294967297 + 2147483647 := by omega
    have h4 : (u2 * 4294967296 + u1) / top < 4294967298 := by
      rw [Nat.div_lt_iff_lt_mul ht]
      omega
    omega
theorem Est.qlt (E : Est top sec u2 u1 u0 P v' w' vv W) : W / vv < 4294967296 := by
  rw [Nat.div_lt_iff_lt_mul E.vv0]
  exact E.lt
end Go.Proofs.YtkadllkeekoopaaGreat.Abs.BN
end

section
namespace Go.Proofs.YtkadllkeekoopaaGreat.Abs.BN
open Go.Proofs.YtkadllkeekoopaaGreat.Abs.Ints

theorem val_take_congr {a b : List Int} : ∀ {k : Nat}, (∀ p, p < k → a.getD p 0 = b.getD p 0) → val (a.take k) = val (b.take k)
  | 0, _ => by simp [val]
  | k + 1, h => by rw [V_succ, V_succ, val_take_congr (fun p hp => h p (by omega)), h k (by omega)]
theorem val_drop_congr {a b : List Int} {k : Nat} (hl : a.length = b.length) (h : ∀ p, k ≤ p → a.getD p 0 = b.getD p 0) : val (a.drop k) = val (b.drop k) := by
  have : a.drop k = b.drop k := by
    apply List.ext_getElem?
    intro i
    rw [List.getElem?_drop, List.getElem?_drop]
    by_cases hi : k + i < a.length
    · have := h (k + i) (by omega)
      rw [lin hi, lin (by omega)] at this
      rw [List.getElem?_eq_getElem hi, List.getElem?_eq_getElem (by omega), this]
    · rw [List.getElem?_eq_none (by omega), List.getElem?_eq_none (by omega)]
  rw [this]

/-- The number of binary digits. -/
def bl (n : Nat) : Nat := if n = 0 then 0 else n.log2 + 1
theorem bl_zero : bl 0 = 0 := rfl
theorem bl_lt (n : Nat) : n < 2 ^ bl n := by
  unfold bl
  split
  · rename_i h; subst h; decide
  · exact Nat.lt_log2_self
theorem bl_ge {n : Nat} (h : 0 < n) : 2 ^ (bl n - 1) ≤ n := by
  unfold bl
  rw [if_neg (by omega), Nat.add_sub_cancel]
  exact Nat.log2_self_le (by omega)
theorem bl_pos {n : Nat} (h : 0 < n) : 0 < bl n := by
  unfold bl
  rw [if_neg (by omega)]
  omega
theorem bl_uniq {n k : Nat} (h0 : 2 ^ k ≤ n) (h1 : n < 2 ^ (k + 1)) : bl n = k + 1 := by
  have hp : 0 < 2 ^ k := Nat.pow_pos (by omega)
  have hn : 0 < n := by omega
  have g0 := bl_ge hn
  have g1 := bl_lt n
  have g2 := bl_pos hn
  have a1 : k < bl n := (Nat.pow_lt_pow_iff_right (a := 2) (by omega)).1 (Nat.lt_of_le_of_lt h0 g1)
  have a2 : bl n - 1 < k + 1 := (Nat.pow_lt_pow_iff_right (a := 2) (by omega)).1 (Nat.lt_of_le_of_lt g0 h1)
  omega
theorem bl_shift {n k : Nat} (hk : 0 < n / 2 ^ k) : bl n = bl (n / 2 ^ k) + k := by
  have h0 := bl_ge hk
  have h1 := bl_lt (n / 2 ^ k)
  have h2 := bl_pos hk
  have hp : 0 < 2 ^ k := Nat.pow_pos (by omega)
  have e : bl n = (bl (n / 2 ^ k) - 1 + k) + 1 := by
    refine bl_uniq ?_ ?_
    · rw [Nat.pow_add]
      have := (Nat.le_div_iff_mul_le hp).1 h0
      exact this
    · have := (Nat.div_lt_iff_lt_mul hp).1 h1
      rw [show bl (n / 2 ^ k) - 1 + k + 1 = bl (n / 2 ^ k) + k by omega, Nat.pow_add]
      exact this
  omega
theorem bl_le {n k : Nat} (h : n < 2 ^ k) : bl n ≤ k := by
  rcases Nat.eq_zero_or_pos n with rfl | hn
  · rw [bl_zero]; omega
  · have g0 := bl_ge hn
    have := (Nat.pow_lt_pow_iff_right (a := 2) (by omega)).1 (Nat.lt_of_le_of_lt g0 h)
    omega
/-- A canonical list's digits. -/
theorem bl_lim {n : Nat} (h : 0 < n) : bl n = 32 * ((lim n).length - 1) + bl ((lim n).getD ((lim n).length - 1) 0).toNat ∧ 0 < (lim n).length := by
  have hl : 0 < (lim n).length := by
    rcases Nat.eq_zero_or_pos (lim n).length with h0 | h0
    · have := lim_len_zero.1 h0; omega
    · exact h0
  refine ⟨?_, hl⟩
  have sv := V_succ (lim n) ((lim n).length - 1)
  rw [show (lim n).length - 1 + 1 = (lim n).length by omega, V_all (Nat.le_refl _), V_lim] at sv
  have tl := V_take_lt (U_lim n) ((lim n).length - 1)
  have hne := lim_last h
  have hat := (U_lim n).at ((lim n).length - 1)
  have hd : n / 2 ^ (32 * ((lim n).length - 1)) = ((lim n).getD ((lim n).length - 1) 0).toNat := by
    rw [← pow_B]
    have hp := pow_pos' ((lim n).length - 1)
    generalize 4294967296 ^ ((lim n).length - 1) = P at *
    generalize val ((lim n).take ((lim n).length - 1)) = lo at *
    generalize ((lim n).getD ((lim n).length - 1) 0).toNat = t at *
    have : n / P = t := by
      clear hl h hne
      rw [sv, Nat.mul_comm, Nat.add_mul_div_left _ _ hp, Nat.div_eq_of_lt tl, Nat.zero_add]
    exact this
  have := bl_shift (n := n) (k := 32 * ((lim n).length - 1)) (by rw [hd]; omega)
  rw [hd] at this
  omega
end Go.Proofs.YtkadllkeekoopaaGreat.Abs.BN
end

section
namespace Go.Proofs.YtkadllkeekoopaaGreat.Abs.BN
open Go.Proofs.YtkadllkeekoopaaGreat.Abs.Ints

/-! ## Integers -/
def iv (p : Bool × List Int) : Int := if p.1 then -(val p.2 : Int) else (val p.2 : Int)
def I (z : Int) : Bool × List Int := (decide (z < 0), lim z.natAbs)
theorem iv_I (z : Int) : iv (I z) = z := by
  unfold iv I
  simp only [V_lim]
  by_cases h : z < 0
  · rw [decide_eq_true h, if_pos rfl]; omega
  · rw [decide_eq_false h, if_neg (by simp)]; omega
theorem iv_abs (p : Bool × List Int) : (iv p).natAbs = val p.2 := by
  unfold iv
  split <;> omega
theorem I_eq (b : Bool) (n : Nat) : ((b && decide (0 < n)), lim n) = I (if b then -(n : Int) else (n : Int)) := by
  unfold I
  cases b with
  | true =>
    simp only [Bool.true_and, if_true]
    by_cases h : 0 < n
    · rw [decide_eq_true h, decide_eq_true (by omega), show (-(n : Int)).natAbs = n by omega]
    · rw [decide_eq_false h, decide_eq_false (by omega), show (-(n : Int)).natAbs = n by omega]
  | false =>
    simp only [Bool.false_and, Bool.false_eq_true, if_false]
    rw [decide_eq_false (by omega), show ((n : Int)).natAbs = n by omega]
def sgn (z : Int) : Int := if z = 0 then 0 else if z < 0 then -1 else 1
theorem sgn_neg {z : Int} (h : z < 0) : sgn z = -1 := by unfold sgn; rw [if_neg (by omega), if_pos h]
theorem sgn_zero {z : Int} (h : z = 0) : sgn z = 0 := by unfold sgn; rw [if_pos h]
theorem sgn_pos {z : Int} (h : 0 < z) : sgn z = 1 := by unfold sgn; rw [if_neg (by omega), if_neg (by omega)]
def cmpZ (a b : Int) : Int := if a < b then -1 else if a = b then 0 else 1
theorem lim_pos_len (n : Nat) : decide (0 < ((lim n).length : Int)) = decide (0 < n) := by
  have := lim_len_zero (n := n)
  by_cases h : 0 < n
  · rw [decide_eq_true h, decide_eq_true (by omega)]
  · rw [decide_eq_false h, decide_eq_false (by omega)]
def SmI (z : Int) : Prop := Sm z.natAbs
theorem L_I {z : Int} (h : SmI z) : L (I z).2 := Sm.lim h
theorem SmI.iv {p : Bool × List Int} (h : Sm (val p.2)) : SmI (iv p) := by unfold SmI; rwa [iv_abs]
theorem I_zero : I 0 = (false, []) := by
  unfold I
  rw [show (0 : Int).natAbs = 0 from rfl, lim_zero]
  rfl
end Go.Proofs.YtkadllkeekoopaaGreat.Abs.BN
end

section
namespace Go.Proofs.YtkadllkeekoopaaGreat.Abs.BN
open Go.Proofs.YtkadllkeekoopaaGreat.Abs.Ints
set_option maxRecDepth 10000

/-- A limb out of the value. -/
theorem limb_val {a : List Int} (h : U a) (w : Nat) : (a.getD w 0).toNat = val a / 4294967296 ^ w % 4294967296 := by
  have hp := pow_pos' w
  have ht := V_take_lt h w
  have hat := h.at w
  have hs := V_succ a w
  by_cases hw : w < a.length
  · have h1 := V_split a (w + 1) (by omega)
    rw [hs, Nat.pow_succ] at h1
    have e : val a = val (a.take w) + 4294967296 ^ w * ((a.getD w 0).toNat + 4294967296 * val (a.drop (w + 1))) := by
      generalize 4294967296 ^ w = p at *
      generalize (a.getD w 0).toNat = x at *
      grind
    rw [e, Nat.add_mul_div_left _ _ hp, Nat.div_eq_of_lt ht, Nat.zero_add, Nat.add_mul_mod_self_left, Nat.mod_eq_of_lt (by omega)]
  · rw [lout (by omega)]
    rw [V_all (by omega)] at ht
    rw [Nat.div_eq_of_lt ht]
    rfl
theorem bit_val {a : List Int} (h : U a) (i : Nat) : (a.getD (i / 32) 0).toNat / 2 ^ (i % 32) % 2 = val a / 2 ^ i % 2 := by
  rw [limb_val h, pow_B]
  have e : 2 ^ i = 2 ^ (32 * (i / 32)) * 2 ^ (i % 32) := by rw [← Nat.pow_add, Nat.div_add_mod]
  rw [e, ← Nat.div_div_eq_div_mul]
  generalize val a / 2 ^ (32 * (i / 32)) = y
  have h32 : i % 32 < 32 := Nat.mod_lt _ (by omega)
  have e2 : 4294967296 = 2 ^ (i % 32) * (2 * 2 ^ (31 - i % 32)) := by
    rw [← Nat.pow_succ', ← Nat.pow_add, show i % 32 + (31 - i % 32).succ = 32 by omega]
  conv => lhs; rw [e2]
  rw [Nat.mod_mul_right_div_self, Nat.mod_mul_right_mod]
/-- A digit set. -/
theorem or_bit {h k : Nat} (hh : h % 2 ^ (k + 1) = 0) (hk : k < 32) (h1 : h < 4294967296) : Go.bits .or .u32 (h : Int) ((2 ^ k : Nat) : Int) = ((h + 2 ^ k : Nat) : Int) := by
  have hk2 : 2 ^ k < 4294967296 := by
    have := Nat.pow_lt_pow_right (a := 2) (by omega) hk
    simpa using this
  rw [or_u32 h (2 ^ k) h1 hk2]
  have e : h = 2 ^ (k + 1) * (h / 2 ^ (k + 1)) := by
    have := Nat.div_add_mod h (2 ^ (k + 1))
    omega
  have hlt : 2 ^ k < 2 ^ (k + 1) := Nat.pow_lt_pow_right (by omega) (by omega)
  conv => lhs; rw [e, ← Nat.two_pow_add_eq_or_of_lt hlt]
  rw [← e]
/-- The limb in which digit i lies, where all digits from i down are 0. -/
theorem limb_low {a : List Int} (h : U a) {i c : Nat} (hv : val a = c * 2 ^ (i + 1)) : (a.getD (i / 32) 0).toNat % 2 ^ (i % 32 + 1) = 0 := by
  rw [limb_val h, hv, pow_B]
  have h32 : i % 32 < 32 := Nat.mod_lt _ (by omega)
  have e : 2 ^ (i + 1) = 2 ^ (32 * (i / 32)) * 2 ^ (i % 32 + 1) := by rw [← Nat.pow_add]; congr 1; omega
  have hp : 0 < 2 ^ (32 * (i / 32)) := Nat.pow_pos (by omega)
  rw [e, show c * (2 ^ (32 * (i / 32)) * 2 ^ (i % 32 + 1)) = 2 ^ (32 * (i / 32)) * (c * 2 ^ (i % 32 + 1)) by grind, Nat.mul_div_cancel_left _ hp]
  have e2 : 4294967296 = 2 ^ (i % 32 + 1) * 2 ^ (31 - i % 32) := by rw [← Nat.pow_add, show i % 32 + 1 + (31 - i % 32) = 32 by omega]
  conv => lhs; rw [e2]
  rw [Nat.mod_mul_right_mod, Nat.mul_mod_left]
theorem shift_step {A i : Nat} : A / 2 ^ i = 2 * (A / 2 ^ (i + 1)) + A / 2 ^ i % 2 := by
  rw [Nat.pow_succ, ← Nat.div_div_eq_div_mul]
  omega
theorem Sm.one : Sm 1 := by unfold Sm; rw [lim_pos (by omega), lim_zero]; decide
theorem L.one : L [1] := ⟨fun x hx => by rw [List.mem_singleton.1 hx]; omega, by simp⟩
theorem lim_one : lim 1 = [1] := by rw [lim_pos (by omega), lim_zero]; rfl
end Go.Proofs.YtkadllkeekoopaaGreat.Abs.BN
end

section
namespace Go.Proofs.YtkadllkeekoopaaGreat.Abs.BN
set_option maxRecDepth 10000

/-! ## Decimal digits -/
def rd (n : Nat) : List Int := if n = 0 then [] else ((48 + n % 10 : Nat) : Int) :: rd (n / 10)
  termination_by n
  decreasing_by omega
def dig (n : Nat) : List UInt8 := if n = 0 then [48] else (rd n).reverse.map fun n => UInt8.ofNat n.toNat
theorem rd_zero : rd 0 = [] := by rw [rd]; simp
theorem rd_pos {n : Nat} (h : 0 < n) : rd n = ((48 + n % 10 : Nat) : Int) :: rd (n / 10) := by rw [rd, if_neg (by omega)]
theorem rd_len : ∀ (k n : Nat), n < 10 ^ k → (rd n).length ≤ k
  | 0, n, h => by
    have : n = 0 := by simpa using h
    subst this; rw [rd_zero]; exact Nat.le_refl 0
  | k + 1, n, h => by
    rcases Nat.eq_zero_or_pos n with h0 | h0
    · subst h0; rw [rd_zero]; simp
    · rw [rd_pos h0, List.length_cons]
      have : n / 10 < 10 ^ k := by
        rw [Nat.pow_succ] at h
        generalize 10 ^ k = P at *
        omega
      have := rd_len k (n / 10) this
      omega
theorem rd_sm {n : Nat} (h : Sm n) : (rd n).length ≤ 17592186044416 := by
  have h1 := lim_lt_pow n
  have h2 : 4294967296 ^ (lim n).length ≤ 10 ^ (10 * (lim n).length) := by
    rw [Nat.pow_mul]
    exact Nat.pow_le_pow_left (by decide) _
  have h3 := rd_len (10 * (lim n).length) n (Nat.lt_of_lt_of_le h1 h2)
  unfold Sm at h
  omega
theorem rd_in {n : Nat} : ∀ x ∈ rd n, 48 ≤ x ∧ x ≤ 57 := by
  induction n using Nat.strongRecOn with
  | ind n ih =>
    intro x hx
    rcases Nat.eq_zero_or_pos n with h0 | h0
    · subst h0; rw [rd_zero] at hx; cases hx
    · rw [rd_pos h0] at hx
      rcases List.mem_cons.1 hx with rfl | hx
      · have : n % 10 < 10 := Nat.mod_lt _ (by omega)
        omega
      · exact ih (n / 10) (by omega) x hx
/-- what a text of digits says -/
def num : List UInt8 → Nat → Nat
  | [], v => v
  | c :: r, v => num r (10 * v + (c.toNat - 48))
theorem num_app : ∀ (a b : List UInt8) (v : Nat), num (a ++ b) v = num b (num a v)
  | [], _, _ => rfl
  | c :: r, b, v => num_app r b _
theorem num_rd (n : Nat) : num ((rd n).reverse.map fun n => UInt8.ofNat n.toNat) 0 = n := by
  induction n using Nat.strongRecOn with
  | ind n ih =>
    rcases Nat.eq_zero_or_pos n with h0 | h0
    · subst h0; rw [rd_zero]; rfl
    · rw [rd_pos h0, List.reverse_cons, List.map_append, num_app, ih (n / 10) (by omega)]
      have : n % 10 < 10 := Nat.mod_lt _ (by omega)
      show 10 * (n / 10) + ((UInt8.ofNat (((48 + n % 10 : Nat) : Int)).toNat).toNat - 48) = n
      rw [Int.toNat_natCast, UInt8.toNat_ofNat']
      omega
theorem num_dig (n : Nat) : num (dig n) 0 = n := by
  unfold dig
  by_cases h : n = 0
  · subst h; rw [if_pos rfl]; rfl
  · rw [if_neg h]; exact num_rd n
theorem dig_in' {n : Nat} : ∀ c ∈ dig n, 48 ≤ c.toNat ∧ c.toNat ≤ 57 := by
  intro c hc
  unfold dig at hc
  by_cases h : n = 0
  · rw [if_pos h] at hc
    rw [List.mem_singleton.1 hc]
    decide
  · rw [if_neg h] at hc
    obtain ⟨x, hx, rfl⟩ := List.mem_map.1 hc
    have := rd_in x (List.mem_reverse.1 hx)
    rw [UInt8.toNat_ofNat']
    omega
theorem dig_len {n : Nat} (h : Sm n) : 0 < (dig n).length ∧ (dig n).length ≤ 17592186044416 := by
  unfold dig
  by_cases h0 : n = 0
  · rw [if_pos h0]; decide
  · rw [if_neg h0, List.length_map, List.length_reverse]
    have := rd_sm h
    rw [rd_pos (by omega)] at this ⊢
    rw [List.length_cons] at this ⊢
    omega
theorem rd_last {n : Nat} (h : 0 < n) : ∃ x r, (rd n).reverse = x :: r ∧ 49 ≤ x ∧ x ≤ 57 := by
  induction n using Nat.strongRecOn with
  | ind n ih =>
    rw [rd_pos h, List.reverse_cons]
    by_cases h1 : n / 10 = 0
    · rw [h1, rd_zero]
      exact ⟨_, [], rfl, by omega, by omega⟩
    · obtain ⟨x, r, e, h1, h2⟩ := ih (n / 10) (by omega) (by omega)
      rw [e]
      exact ⟨x, _, rfl, h1, h2⟩
/-- a text of digits begins with nought only where it is nought -/
theorem dig_first (n : Nat) : ∃ c r, dig n = c :: r ∧ 48 ≤ c.toNat ∧ c.toNat ≤ 57 ∧ (n = 0 → c :: r = [48]) ∧ (n ≠ 0 → c.toNat ≠ 48) := by
  by_cases h : n = 0
  · refine ⟨48, [], ?_, by decide, by decide, fun _ => rfl, fun k => absurd h k⟩
    unfold dig; rw [if_pos h]
  · obtain ⟨x, r, e, h1, h2⟩ := rd_last (n := n) (by omega)
    refine ⟨UInt8.ofNat x.toNat, r.map fun n => UInt8.ofNat n.toNat, ?_, ?_, ?_, fun k => absurd k h, fun _ => ?_⟩
    · unfold dig; rw [if_neg h, e]; rfl
    all_goals rw [UInt8.toNat_ofNat']; omega
def sgz (b : Bool) (n : Nat) : Int := if b then -(n : Int) else (n : Int)
end Go.Proofs.YtkadllkeekoopaaGreat.Abs.BN
end
