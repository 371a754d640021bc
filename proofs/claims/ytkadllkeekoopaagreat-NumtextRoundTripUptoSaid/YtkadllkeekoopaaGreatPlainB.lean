import Derived.Test.YtkadllkeekoopaaGreatPlainA
set_option linter.unusedVariables false
set_option linter.unusedSimpArgs false
section
namespace Go.Proofs.YtkadllkeekoopaaGreat.Abs.T
open Go.Proofs.YtkadllkeekoopaaGreat.Abs.Ints Go.Proofs.YtkadllkeekoopaaGreat.Abs.BN

theorem view_loop (a : List Int) (hl : a.length < 4611686018427387904) : ∀ (i : Nat), i ≤ a.length → (∀ j, i ≤ j → a.getD j 0 = 0) →
    ∃ k, k ≤ i ∧ (∀ j, k ≤ j → a.getD j 0 = 0) ∧ (k = 0 ∨ a.getD (k - 1) 0 ≠ 0) ∧ ∀ N K m, natural_view.l2 N K (m + i + 1) a (i : Int) = K a (k : Int)
  | 0, hi, hz => ⟨0, Nat.le_refl _, hz, .inl rfl, fun N K m => by
      show natural_view.p2 N K (natural_view.l2 N K (m + 0)) a ((0 : Nat) : Int) = _
      unfold natural_view.p2
      rw [if_neg (by simp)]⟩
  | i + 1, hi, hz => by
    have w1 : IntKind.wrap .i64 (((i + 1 : Nat) : Int) - 1) = (i : Int) := by rw [wi (by omega) (by omega)]; omega
    by_cases h : a.getD i 0 = 0
    · obtain ⟨k, h1, h2, h3, h4⟩ := view_loop a hl i (by omega) fun j hj => by
        rcases Nat.eq_or_lt_of_le hj with rfl | hj
        · exact h
        · exact hz j hj
      refine ⟨k, by omega, h2, h3, fun N K m => ?_⟩
      show natural_view.p2 N K (natural_view.l2 N K (m + (i + 1))) a ((i + 1 : Nat) : Int) = _
      unfold natural_view.p2
      rw [w1, if_pos (decide_eq_true (by omega)), if_pos (by omega), i2n, if_pos (decide_eq_true h)]
      exact h4 N K m
    · refine ⟨i + 1, Nat.le_refl _, hz, .inr (by simpa using h), fun N K m => ?_⟩
      show natural_view.p2 N K (natural_view.l2 N K (m + (i + 1))) a ((i + 1 : Nat) : Int) = _
      unfold natural_view.p2
      rw [w1, if_pos (decide_eq_true (by omega)), if_pos (by omega), i2n, if_neg (by rw [decide_eq_true_eq]; exact h)]
theorem view_ok {a : List Int} (h : L a) : Ev fun N => natural_view.f N a = some (lim (val a), ()) := by
  obtain ⟨k, h1, h2, h3, h4⟩ := view_loop a (by have := h.len; omega) a.length (Nat.le_refl _) fun j hj => lout hj
  refine (Ev.ge (a.length + 1)).mono fun N hN => ?_
  unfold natural_view.f
  have := h4 N (fun y0_1 y3_1 => if (0 : Int) ≤ y3_1 ∧ y3_1 ≤ (y0_1.length : Int) then (some ((y0_1.take ((y3_1 : Int).toNat)), ())) else none) (N - (a.length + 1))
  rw [show N - (a.length + 1) + a.length + 1 = N by omega] at this
  rw [this, if_pos (by omega), i2n, take_lim h.u h2 h3]
theorem view_lim {n : Nat} (h : Sm n) : Ev fun N => natural_view.f N (lim n) = some (lim n, ()) := by
  have := view_ok h.lim
  rwa [V_lim] at this
theorem trim_ok {a : List Int} (h : L a) (hs : Sm (val a)) : Ev fun N => natural_Trim.f N a = some (lim (val a), ()) := by
  refine (view_ok h).mono fun N h => ?_
  unfold natural_Trim.f
  unfold Sm at hs
  rw [h]
  simp only [Option.bind_some]
  rw [if_pos (by omega)]
theorem trim_lim {n : Nat} (h : Sm n) : Ev fun N => natural_Trim.f N (lim n) = some (lim n, ()) := by
  have := trim_ok h.lim (by rwa [V_lim])
  rwa [V_lim] at this
theorem two_limbs {v : Int} (h0 : 0 ≤ v) (h1 : v < 18446744073709551616) : U [IntKind.wrap .u32 v, IntKind.wrap .u32 (v / 2 ^ 32)] ∧ val [IntKind.wrap .u32 v, IntKind.wrap .u32 (v / 2 ^ 32)] = v.toNat := by
  rw [p32, w32m, w32m]
  refine ⟨fun x hx => ?_, ?_⟩
  · simp only [List.mem_cons, List.not_mem_nil, or_false] at hx
    omega
  · simp only [val]
    omega
theorem fromU_ok {v : Int} (h0 : 0 ≤ v) (h1 : v < 18446744073709551616) : Ev fun N => natural_FromUint64.f N v = some (lim v.toNat, ()) := by
  obtain ⟨hu, hv⟩ := two_limbs h0 h1
  refine (view_ok ⟨hu, by simp⟩).mono fun N h => ?_
  unfold natural_FromUint64.f
  rw [h, hv]
  rfl

theorem compare_loop {a b : List Int} (ha : U a) (hb : U b) (hl : a.length = b.length) (hn : a.length < 4611686018427387904) : ∀ (i : Nat), i ≤ a.length → val (a.drop i) = val (b.drop i) → ∀ N m,
    natural_Compare.l7 N (fun (_ : Unit) => some (0, ())) (m + i + 1) a b ((i : Int) - 1) = some (cmpN (val a) (val b), ())
  | 0, hi, he, N, m => by
    show natural_Compare.p7 N _ (natural_Compare.l7 N _ (m + 0)) a b (((0 : Nat) : Int) - 1) = _
    unfold natural_Compare.p7
    rw [if_neg (by simp)]
    simp only [List.drop_zero] at he
    unfold cmpN
    rw [he, if_neg (by omega), if_pos rfl]
  | i + 1, hi, he, N, m => by
    show natural_Compare.p7 N _ (natural_Compare.l7 N _ (m + (i + 1))) a b (((i + 1 : Nat) : Int) - 1) = _
    have e1 : ((i + 1 : Nat) : Int) - 1 = (i : Int) := by omega
    rw [e1]
    unfold natural_Compare.p7
    rw [if_pos (decide_eq_true (by omega)), if_pos (by omega), if_pos (by omega), i2n]
    have sa := V_split a (i + 1) hi
    have sb := V_split b (i + 1) (by omega)
    rw [V_succ] at sa sb
    have ta := V_take_lt ha i
    have tb := V_take_lt hb i
    have ia := ha.at i
    have ib := hb.at i
    have da := V_drop a i (by omega)
    have db := V_drop b i (by omega)
    generalize a.getD i 0 = x at *
    generalize b.getD i 0 = y at *
    by_cases hxy : x = y
    · subst hxy
      rw [if_neg (by simp), wi (by omega) (by omega)]
      exact compare_loop ha hb hl hn i (by omega) (by rw [da, db, he]) N m
    · rw [if_pos (by simp [hxy]), if_pos (by omega), if_pos (by omega)]
      rw [he] at sa
      unfold cmpN
      by_cases hlt : x < y
      · rw [if_pos (decide_eq_true hlt), if_pos ?_]
        have : (x.toNat + 1) * 4294967296 ^ i ≤ y.toNat * 4294967296 ^ i := Nat.mul_le_mul_right _ (by omega)
        rw [Nat.add_mul] at this
        omega
      · rw [if_neg (by rw [decide_eq_true_eq]; exact hlt)]
        have : (y.toNat + 1) * 4294967296 ^ i ≤ x.toNat * 4294967296 ^ i := Nat.mul_le_mul_right _ (by omega)
        rw [Nat.add_mul] at this
        rw [if_neg (by omega), if_neg (by omega)]
theorem compare_ok {a b : List Int} (ha : L a) (hb : L b) : Ev fun N => natural_Compare.f N a b = some (cmpN (val a) (val b), ()) := by
  refine (((view_ok ha).and (view_ok hb)).and (Ev.ge ((lim (val a)).length + 1))).mono fun N ⟨⟨h1, h2⟩, h3⟩ => ?_
  have hla : (lim (val a)).length ≤ a.length := lim_len_le (V_lt ha.u)
  have hlb : (lim (val b)).length ≤ b.length := lim_len_le (V_lt hb.u)
  have := ha.len
  have := hb.len
  unfold natural_Compare.f
  rw [h1, h2]
  simp only [Option.bind_some]
  by_cases hl : (lim (val a)).length = (lim (val b)).length
  · rw [if_neg (by simp [hl]), wi (by omega) (by omega)]
    have := compare_loop (U_lim (val a)) (U_lim (val b)) hl (by omega) (lim (val a)).length (Nat.le_refl _) (by rw [List.drop_length, hl, List.drop_length]) N (N - ((lim (val a)).length + 1))
    rw [show N - ((lim (val a)).length + 1) + (lim (val a)).length + 1 = N by omega] at this
    rw [this, V_lim, V_lim]
  · rw [if_pos (by simp; omega)]
    unfold cmpN
    by_cases hlt : (lim (val a)).length < (lim (val b)).length
    · rw [if_pos (decide_eq_true (by omega)), if_pos (cmp_len hlt)]
    · rw [if_neg (by rw [decide_eq_true_eq]; omega)]
      have := cmp_len (a := val b) (b := val a) (by omega)
      rw [if_neg (by omega), if_neg (by omega)]
end Go.Proofs.YtkadllkeekoopaaGreat.Abs.T
end

section
namespace Go.Proofs.YtkadllkeekoopaaGreat.Abs.T
open Go.Proofs.YtkadllkeekoopaaGreat.Abs.Ints Go.Proofs.YtkadllkeekoopaaGreat.Abs.BN

/-! ## Add -/
theorem add_loop {a b : List Int} (ha : U a) (hb : U b) (hn : a.length < 4611686018427387904) : ∀ (d i : Nat) (c : Int) (out : List Int), i + d = a.length → U out → out.length = a.length + 1 → 0 ≤ c → c ≤ 1 →
    val (out.take i) + c.toNat * 4294967296 ^ i = val (a.take i) + val (b.take i) →
    ∃ (c' : Int) (out' : List Int), U out' ∧ out'.length = a.length + 1 ∧ 0 ≤ c' ∧ c' ≤ 1 ∧ val (out'.take a.length) + c'.toNat * 4294967296 ^ a.length = val (a.take a.length) + val (b.take a.length) ∧
      ∀ N K m, natural_Add.l7 N K (m + d + 1) a b c a (a.length : Int) (i : Int) out = K a c' out'
  | 0, i, c, out, hi, hu, hl, h0, h1, he => by
    have hi' : i = a.length := by omega
    subst hi'
    refine ⟨c, out, hu, hl, h0, h1, he, fun N K m => ?_⟩
    show natural_Add.p7 N K (natural_Add.l7 N K (m + 0)) a b c a (a.length : Int) (a.length : Int) out = _
    unfold natural_Add.p7
    rw [if_neg (by simp)]
  | d + 1, i, c, out, hi, hu, hl, h0, h1, he => by
    have ia := ha.at i
    have ib := hb.at i
    have sa := V_succ a i
    have sb := V_succ b i
    have so := V_set (a := out) (i := i) (by omega) ((a.getD i 0 + c + b.getD i 0) % 4294967296)
    obtain ⟨w, hw⟩ : ∃ w, 4294967296 ^ i = w := ⟨_, rfl⟩
    have hw' : 4294967296 ^ (i + 1) = 4294967296 * w := by rw [Nat.pow_succ, hw, Nat.mul_comm]
    have key : ∃ (c' : Int) (out' : List Int), U out' ∧ out'.length = a.length + 1 ∧ 0 ≤ c' ∧ c' ≤ 1 ∧ val (out'.take a.length) + c'.toNat * 4294967296 ^ a.length = val (a.take a.length) + val (b.take a.length) ∧
      ∀ N K m, natural_Add.l7 N K (m + d + 1) a b ((a.getD i 0 + c + b.getD i 0) / 4294967296) a (a.length : Int) ((i + 1 : Nat) : Int) (out.set i ((a.getD i 0 + c + b.getD i 0) % 4294967296)) = K a c' out' := by
      refine add_loop ha hb hn d (i + 1) _ _ (by omega) (hu.set (by omega) (by omega)) (by rw [List.length_set, hl]) (by omega) (by omega) ?_
      rw [so, sa, sb, hw', hw]
      rw [hw] at he
      generalize a.getD i 0 = x at *
      generalize b.getD i 0 = y at *
      obtain ⟨s, hs⟩ : ∃ s, (x + c + y).toNat = s := ⟨_, rfl⟩
      have e1 : ((x + c + y) % 4294967296).toNat = s % 4294967296 := by omega
      have e2 : ((x + c + y) / 4294967296).toNat = s / 4294967296 := by omega
      have e3 : s = x.toNat + c.toNat + y.toNat := by omega
      have e4 := Nat.div_add_mod s 4294967296
      rw [e1, e2]
      generalize s / 4294967296 = q at *
      generalize s % 4294967296 = r at *
      grind
    obtain ⟨c', out', k1, k2, k3, k4, k5, k6⟩ := key
    refine ⟨c', out', k1, k2, k3, k4, k5, fun N K m => ?_⟩
    show natural_Add.p7 N K (natural_Add.l7 N K (m + (d + 1))) a b c a (a.length : Int) (i : Int) out = _
    unfold natural_Add.p7 natural_Add.q12 natural_Add.q14
    dsimp only
    rw [if_pos (decide_eq_true (by omega)), if_pos (by omega), i2n, w64 ia.1 (by omega), w64 (n := a.getD i 0 + c) (by omega) (by omega), wi (n := (i : Int) + 1) (by omega) (by omega)]
    by_cases hib : (i : Int) < (b.length : Int)
    · rw [if_pos (decide_eq_true hib), if_pos (by omega), w64 ib.1 (by omega), w64 (by omega) (by omega)]
      rw [if_pos (by omega), p32, w32m]
      exact k6 N K m
    · rw [if_neg (by rw [decide_eq_true_eq]; exact hib), if_pos (by omega), p32, w32m]
      have hz : b.getD i 0 = 0 := lout (by omega)
      rw [hz, Int.add_zero] at k6
      exact k6 N K m
theorem add_q4 {a b : List Int} (ha : U a) (hb : U b) (hn : a.length ≤ 1099511627776) (hlb : b.length ≤ a.length) : Ev fun N => natural_Add.q4 N a b = some (lim (val a + val b), ()) := by
  obtain ⟨c, out, h1, h2, h3, h4, h5, h6⟩ := add_loop ha hb (by omega) a.length 0 0 (List.replicate (a.length + 1) 0) (by omega) (U.rep _) (by simp) (by omega) (by omega) (by simp [val])
  have hw : out.set a.length (IntKind.wrap .u32 c) = out.set a.length c := by rw [w32 h3 (by omega)]
  have hL : L (out.set a.length c) := ⟨h1.set h3 (by omega), by rw [List.length_set]; omega⟩
  have hv : val (out.set a.length c) = val a + val b := by
    have e := V_set (a := out) (i := a.length) (by omega) c
    rw [V_all (by rw [List.length_set]; omega)] at e
    rw [e, h5, V_all (Nat.le_refl _), V_all hlb]
  refine ((view_ok hL).and (Ev.ge (a.length + 1))).mono fun N ⟨h7, h8⟩ => ?_
  unfold natural_Add.q4
  rw [wi (by omega) (by omega), if_pos (by omega)]
  have := h6 N (fun y0_19 y6_19 yr5_19 => if (0 : Int) ≤ (y0_19.length : Int) ∧ (y0_19.length : Int) < (yr5_19.length : Int) then ((natural_view.f N (yr5_19.set (((y0_19.length : Int) : Int).toNat) (IntKind.wrap .u32 (y6_19)))).bind fun t21 => (some (t21.1, ()))) else none) (N - (a.length + 1))
  rw [show N - (a.length + 1) + a.length + 1 = N by omega] at this
  refine Eq.trans this ?_
  rw [if_pos (by omega), i2n, hw, h7, hv]
  rfl
theorem add_ok {a b : List Int} (ha : L a) (hb : L b) (sa : Sm (val a)) (sb : Sm (val b)) : Ev fun N => natural_Add.f N a b = some (lim (val a + val b), ()) := by
  unfold Sm at sa sb
  by_cases h : (lim (val a)).length < (lim (val b)).length
  · refine (((view_ok ha).and (view_ok hb)).and (add_q4 (U_lim (val b)) (U_lim (val a)) sb (by omega))).mono fun N ⟨⟨h1, h2⟩, h3⟩ => ?_
    unfold natural_Add.f
    rw [h1, h2]
    simp only [Option.bind_some]
    rw [if_pos (decide_eq_true (by omega)), h3, V_lim, V_lim, Nat.add_comm]
  · refine (((view_ok ha).and (view_ok hb)).and (add_q4 (U_lim (val a)) (U_lim (val b)) sa (by omega))).mono fun N ⟨⟨h1, h2⟩, h3⟩ => ?_
    unfold natural_Add.f
    rw [h1, h2]
    simp only [Option.bind_some]
    rw [if_neg (by rw [decide_eq_true_eq]; omega), h3, V_lim, V_lim]

/-! ## Sub -/
theorem sub_loop {a b : List Int} (ha : U a) (hb : U b) (hn : a.length < 4611686018427387904) : ∀ (d i : Nat) (c : Int) (out : List Int), i + d = a.length → U out → out.length = a.length → 0 ≤ c → c ≤ 1 →
    val (out.take i) + val (b.take i) = val (a.take i) + c.toNat * 4294967296 ^ i →
    ∃ (c' : Int) (out' : List Int), U out' ∧ out'.length = a.length ∧ 0 ≤ c' ∧ c' ≤ 1 ∧ val (out'.take a.length) + val (b.take a.length) = val (a.take a.length) + c'.toNat * 4294967296 ^ a.length ∧
      ∀ N K m, natural_Sub.l7 N K (m + d + 1) b c a (a.length : Int) (i : Int) out = K out'
  | 0, i, c, out, hi, hu, hl, h0, h1, he => by
    have hi' : i = a.length := by omega
    subst hi'
    refine ⟨c, out, hu, hl, h0, h1, he, fun N K m => ?_⟩
    show natural_Sub.p7 N K (natural_Sub.l7 N K (m + 0)) b c a (a.length : Int) (a.length : Int) out = _
    unfold natural_Sub.p7
    rw [if_neg (by simp)]
  | d + 1, i, c, out, hi, hu, hl, h0, h1, he => by
    have ia := ha.at i
    have ib := hb.at i
    have sa := V_succ a i
    have sb := V_succ b i
    have so := V_set (a := out) (i := i) (by omega) ((a.getD i 0 - c - b.getD i 0) % 4294967296)
    obtain ⟨w, hw⟩ : ∃ w, 4294967296 ^ i = w := ⟨_, rfl⟩
    have hw' : 4294967296 ^ (i + 1) = 4294967296 * w := by rw [Nat.pow_succ, hw, Nat.mul_comm]
    have hd : ((a.getD i 0 - c - b.getD i 0) % 18446744073709551616) / 9223372036854775808 = if a.getD i 0 - c - b.getD i 0 < 0 then 1 else 0 := by split <;> omega
    have hm : ((a.getD i 0 - c - b.getD i 0) % 18446744073709551616) % 4294967296 = (a.getD i 0 - c - b.getD i 0) % 4294967296 := by omega
    have key : ∃ (c' : Int) (out' : List Int), U out' ∧ out'.length = a.length ∧ 0 ≤ c' ∧ c' ≤ 1 ∧ val (out'.take a.length) + val (b.take a.length) = val (a.take a.length) + c'.toNat * 4294967296 ^ a.length ∧
      ∀ N K m, natural_Sub.l7 N K (m + d + 1) b (if a.getD i 0 - c - b.getD i 0 < 0 then 1 else 0) a (a.length : Int) ((i + 1 : Nat) : Int) (out.set i ((a.getD i 0 - c - b.getD i 0) % 4294967296)) = K out' := by
      refine sub_loop ha hb hn d (i + 1) _ _ (by omega) (hu.set (by omega) (by omega)) (by rw [List.length_set, hl]) (by split <;> omega) (by split <;> omega) ?_
      rw [so, sa, sb, hw', hw]
      rw [hw] at he
      generalize a.getD i 0 = x at *
      generalize b.getD i 0 = y at *
      obtain ⟨r, hr⟩ : ∃ r, ((x - c - y) % 4294967296).toNat = r := ⟨_, rfl⟩
      obtain ⟨q, hq⟩ : ∃ q, (if x - c - y < 0 then (1 : Int) else 0).toNat = q := ⟨_, rfl⟩
      have e4 : r + y.toNat + c.toNat = x.toNat + 4294967296 * q := by
        rw [← hq, ← hr]
        split <;> omega
      rw [hr, hq]
      grind
    obtain ⟨c', out', k1, k2, k3, k4, k5, k6⟩ := key
    refine ⟨c', out', k1, k2, k3, k4, k5, fun N K m => ?_⟩
    show natural_Sub.p7 N K (natural_Sub.l7 N K (m + (d + 1))) b c a (a.length : Int) (i : Int) out = _
    unfold natural_Sub.p7 natural_Sub.q12 natural_Sub.q14
    dsimp only
    have wm : ∀ z : Int, (a.getD i 0 - c) % 18446744073709551616 - z = (a.getD i 0 - c) % 18446744073709551616 - z := fun _ => rfl
    rw [if_pos (decide_eq_true (by omega)), if_pos (by omega), i2n, w64 ia.1 (by omega), wi (n := (i : Int) + 1) (by omega) (by omega)]
    by_cases hib : (i : Int) < (b.length : Int)
    · rw [if_pos (decide_eq_true hib), if_pos (by omega), w64 ib.1 (by omega), w64m (a.getD i 0 - c), w64m]
      have e : ((a.getD i 0 - c) % 18446744073709551616 - b.getD i 0) % 18446744073709551616 = (a.getD i 0 - c - b.getD i 0) % 18446744073709551616 := by omega
      rw [e, if_pos (by omega), p63, w32m, hd, hm]
      exact k6 N K m
    · have hz : b.getD i 0 = 0 := lout (by omega)
      rw [if_neg (by rw [decide_eq_true_eq]; exact hib), w64m (a.getD i 0 - c), if_pos (by omega), p63, w32m]
      rw [hz, Int.sub_zero] at k6 hd hm
      rw [hd, hm]
      exact k6 N K m
theorem sub_ok {a b : List Int} (ha : L a) (hb : L b) (sa : Sm (val a)) : Ev fun N => natural_Sub.f N a b = if val a < val b then some ([], false, ()) else some (lim (val a - val b), true, ()) := by
  unfold Sm at sa
  by_cases hlt : val a < val b
  · refine (compare_ok ha hb).mono fun N h1 => ?_
    unfold natural_Sub.f
    rw [h1, if_pos hlt]
    simp only [Option.bind_some]
    unfold cmpN
    rw [if_pos hlt]
    rfl
  · have hle := lim_len_mono (a := val b) (b := val a) (by omega)
    obtain ⟨c, out, h1, h2, h3, h4, h5, h6⟩ := sub_loop (U_lim (val a)) (U_lim (val b)) (by omega) (lim (val a)).length 0 0 (List.replicate (lim (val a)).length 0) (by omega) (U.rep _) (by simp) (by omega) (by omega) (by simp [val])
    have hlo := V_lt h1
    rw [V_all (by omega), V_all hle, V_all (Nat.le_refl _), V_lim, V_lim] at h5
    rw [h2] at hlo
    have hc : c = 0 := by
      rcases Int.lt_or_le 0 c with h | h
      · have : c = 1 := by omega
        subst this
        simp only [show (1 : Int).toNat = 1 from rfl, Nat.one_mul] at h5
        omega
      · omega
    subst hc
    have hv : val out = val a - val b := by simp at h5; omega
    refine ((((compare_ok ha hb).and (view_ok ha)).and (view_ok hb)).and ((view_ok (a := out) ⟨h1, by omega⟩).and (Ev.ge ((lim (val a)).length + 1)))).mono fun N ⟨⟨⟨g1, g2⟩, g3⟩, g4, g5⟩ => ?_
    unfold natural_Sub.f
    rw [g1, if_neg hlt]
    simp only [Option.bind_some]
    rw [if_neg (by unfold cmpN; rw [if_neg hlt]; split <;> simp), g2, g3]
    simp only [Option.bind_some]
    rw [if_pos (by omega), i2n]
    have := h6 N (fun yr6_21 => (natural_view.f N yr6_21).bind fun t23 => (some (t23.1, true, ()))) (N - ((lim (val a)).length + 1))
    rw [show N - ((lim (val a)).length + 1) + (lim (val a)).length + 1 = N by omega] at this
    refine Eq.trans this ?_
    rw [g4, hv]
    rfl
end Go.Proofs.YtkadllkeekoopaaGreat.Abs.T
end

section
namespace Go.Proofs.YtkadllkeekoopaaGreat.Abs.T
open Go.Proofs.YtkadllkeekoopaaGreat.Abs.Ints Go.Proofs.YtkadllkeekoopaaGreat.Abs.BN

/-! ## Mul -/
theorem mul_inner {a b : List Int} (hb : U b) {i : Nat} {x : Int} (hx : 0 ≤ x ∧ x < 4294967296) (hn : i + b.length < 4611686018427387904) : ∀ (d k : Nat) (c : Int) (out : List Int), k + d = b.length → U out → i + b.length < out.length → 0 ≤ c → c < 4294967296 →
    ∃ (c' : Int) (out' : List Int), U out' ∧ out'.length = out.length ∧ 0 ≤ c' ∧ c' < 4294967296 ∧ (∀ j, i + b.length ≤ j → out'.getD j 0 = out.getD j 0) ∧
      val out' + c'.toNat * 4294967296 ^ (i + b.length) + x.toNat * val (b.take k) * 4294967296 ^ i = val out + c.toNat * 4294967296 ^ (i + k) + x.toNat * val b * 4294967296 ^ i ∧
      ∀ N K m, natural_Mul.l10 N K (m + d + 1) b (i : Int) x c a (a.length : Int) (i : Int) b (b.length : Int) (k : Int) out = K b (i : Int) c' a (a.length : Int) (i : Int) out'
  | 0, k, c, out, hk, hu, hl, h0, h1 => by
    have hk' : k = b.length := by omega
    subst hk'
    refine ⟨c, out, hu, rfl, h0, h1, fun j _ => rfl, by rw [V_all (Nat.le_refl _)], fun N K m => ?_⟩
    show natural_Mul.p10 N K (natural_Mul.l10 N K (m + 0)) b (i : Int) x c a (a.length : Int) (i : Int) b (b.length : Int) (b.length : Int) out = _
    unfold natural_Mul.p10
    rw [if_neg (by simp)]
  | d + 1, k, c, out, hk, hu, hl, h0, h1 => by
    have iy := hb.at k
    have io := hu.at (i + k)
    have hxy := mul_bound hx iy
    have wk : IntKind.wrap .i64 ((i : Int) + (k : Int)) = ((i + k : Nat) : Int) := by rw [wi (by omega) (by omega)]; rfl
    obtain ⟨c', out', k1, k2, k3, k4, k5, k6, k7⟩ := mul_inner (a := a) hb hx hn d (k + 1) ((x * b.getD k 0 + out.getD (i + k) 0 + c) / 4294967296) (out.set (i + k) ((x * b.getD k 0 + out.getD (i + k) 0 + c) % 4294967296)) (by omega) (hu.set (by omega) (by omega)) (by rw [List.length_set]; exact hl) (by omega) (by omega)
    rw [List.length_set] at k2
    refine ⟨c', out', k1, k2, k3, k4, fun j hj => ?_, ?_, fun N K m => ?_⟩
    · rw [k5 j hj, lset_ne (by omega)]
    · have hupd := V_upd (a := out) (p := i + k) (by omega) ((x * b.getD k 0 + out.getD (i + k) 0 + c) % 4294967296)
      have sb := V_succ b k
      rw [sb] at k6
      obtain ⟨y, hy, hy2⟩ := at_nat hb k
      obtain ⟨o, ho, ho2⟩ := at_nat hu (i + k)
      obtain ⟨x', rfl⟩ := nat_of hx.1
      obtain ⟨cn, rfl⟩ := nat_of h0
      obtain ⟨s, hs⟩ : ∃ s : Nat, x' * y + o + cn = s := ⟨_, rfl⟩
      have es : (x' : Int) * (y : Int) + (o : Int) + (cn : Int) = (s : Int) := by rw [← hs]; simp
      have p1 : 4294967296 ^ (i + (k + 1)) = 4294967296 * 4294967296 ^ (i + k) := by rw [← Nat.add_assoc, Nat.pow_succ, Nat.mul_comm]
      have p2 : 4294967296 ^ (i + k) = 4294967296 ^ i * 4294967296 ^ k := Nat.pow_add ..
      rw [hy, ho, es] at hupd
      rw [hy, ho, es, p1] at k6
      have e1 : (((s : Int) % 4294967296)).toNat = s % 4294967296 := by omega
      have e2 : (((s : Int) / 4294967296)).toNat = s / 4294967296 := by omega
      have e4 := Nat.div_add_mod s 4294967296
      rw [e1] at hupd
      rw [e2] at k6
      simp only [Int.toNat_natCast] at k6 hupd ⊢
      rw [p2] at k6 hupd ⊢
      generalize s / 4294967296 = q at *
      generalize s % 4294967296 = r at *
      generalize 4294967296 ^ i = wi' at *
      generalize 4294967296 ^ k = wk' at *
      generalize 4294967296 ^ (i + b.length) = wl at *
      grind
    · show natural_Mul.p10 N K (natural_Mul.l10 N K (m + (d + 1))) b (i : Int) x c a (a.length : Int) (i : Int) b (b.length : Int) (k : Int) out = _
      unfold natural_Mul.p10
      rw [if_pos (decide_eq_true (by omega)), if_pos (by omega), wk, if_pos (by omega), if_pos (by omega), i2n, i2n, w64 hx.1 (by omega), w64 iy.1 (by omega), w64 hxy.1 (by omega), w64 io.1 (by omega), w64 (n := x * b.getD k 0 + out.getD (i + k) 0) (by omega) (by omega), w64 (by omega) (by omega), wi (by omega) (by omega), w32m, p32]
      exact k7 N K m
theorem mul_outer {a b : List Int} (ha : U a) (hb : U b) (hn : a.length + b.length < 4611686018427387904) : ∀ (d i : Nat) (out : List Int), i + d = a.length → U out → out.length = a.length + b.length → (∀ j, i + b.length ≤ j → out.getD j 0 = 0) → val out = val (a.take i) * val b →
    ∃ out', U out' ∧ out'.length = a.length + b.length ∧ val out' = val a * val b ∧ ∀ N K m, b.length + 1 ≤ N → natural_Mul.l6 N K (m + d + 1) b a (a.length : Int) (i : Int) out = K out'
  | 0, i, out, hi, hu, hl, hz, he => by
    have hi' : i = a.length := by omega
    subst hi'
    rw [V_all (Nat.le_refl _)] at he
    refine ⟨out, hu, hl, he, fun N K m _ => ?_⟩
    show natural_Mul.p6 N K (natural_Mul.l6 N K (m + 0)) b a (a.length : Int) (a.length : Int) out = _
    unfold natural_Mul.p6
    rw [if_neg (by simp)]
  | d + 1, i, out, hi, hu, hl, hz, he => by
    have ix := ha.at i
    obtain ⟨c, o1, k1, k2, k3, k4, k5, k6, k7⟩ := mul_inner (a := a) hb ix (i := i) (by omega) b.length 0 0 out (by omega) hu (by omega) (by omega) (by omega)
    have z1 : o1.getD (i + b.length) 0 = 0 := by rw [k5 _ (Nat.le_refl _), hz _ (Nat.le_refl _)]
    have hupd := V_upd (a := o1) (p := i + b.length) (by omega) c
    have sa := V_succ a i
    have wl : IntKind.wrap .i64 ((i : Int) + (b.length : Int)) = ((i + b.length : Nat) : Int) := by rw [wi (by omega) (by omega)]; rfl
    obtain ⟨o2, g1, g2, g3, g4⟩ := mul_outer ha hb hn d (i + 1) (o1.set (i + b.length) c) (by omega) (k1.set k3 k4) (by rw [List.length_set]; omega) (fun j hj => by rw [lset_ne (by omega), k5 j (by omega), hz j (by omega)]) (by
      rw [z1] at hupd
      simp only [List.take_zero, val, Nat.mul_zero, Nat.zero_mul, Nat.add_zero, Int.toNat_zero] at k6 hupd
      rw [sa]
      grind)
    refine ⟨o2, g1, g2, g3, fun N K m hN => ?_⟩
    show natural_Mul.p6 N K (natural_Mul.l6 N K (m + (d + 1))) b a (a.length : Int) (i : Int) out = _
    unfold natural_Mul.p6
    rw [if_pos (decide_eq_true (by omega)), if_pos (by omega), i2n]
    have := k7 N (fun y1_19 y6_19 y8_19 y30_19 y31_19 y32_19 yr5_19 => if (0 : Int) ≤ IntKind.wrap .i64 (y6_19 + (y1_19.length : Int)) ∧ IntKind.wrap .i64 (y6_19 + (y1_19.length : Int)) < (yr5_19.length : Int) then ((natural_Mul.l6 N K (m + (d + 1))) y1_19 y30_19 y31_19 (IntKind.wrap .i64 (y32_19 + 1)) (yr5_19.set ((IntKind.wrap .i64 (y6_19 + (y1_19.length : Int)) : Int).toNat) (IntKind.wrap .u32 (y8_19)))) else none) (N - (b.length + 1))
    rw [show N - (b.length + 1) + b.length + 1 = N by omega] at this
    refine Eq.trans this ?_
    rw [wl, if_pos (by omega), i2n, w32 k3 k4, wi (by omega) (by omega)]
    exact g4 N K m hN
theorem mul_q4 {a b : List Int} (ha : U a) (hb : U b) (hn : a.length + b.length ≤ 4398046511104) : Ev fun N => natural_Mul.q4 N a b = some (lim (val a * val b), ()) := by
  obtain ⟨out, h1, h2, h3, h4⟩ := mul_outer ha hb (by omega) a.length 0 (List.replicate (a.length + b.length) 0) (by omega) (U.rep _) (by simp) (fun j _ => by
    by_cases hj : j < a.length + b.length
    · rw [lin (by simpa using hj)]; simp
    · exact lout (by simpa using hj)) (by simp [val, V_rep])
  refine ((view_ok (a := out) ⟨h1, by omega⟩).and (Ev.ge (a.length + b.length + 1))).mono fun N ⟨h7, h8⟩ => ?_
  unfold natural_Mul.q4
  rw [wi (by omega) (by omega), if_pos (by omega)]
  have := h4 N (fun yr5_20 => (natural_view.f N yr5_20).bind fun t22 => (some (t22.1, ()))) (N - (a.length + 1)) (by omega)
  rw [show N - (a.length + 1) + a.length + 1 = N by omega] at this
  refine Eq.trans this ?_
  rw [h7, h3]
  rfl
theorem mul_ok {a b : List Int} (ha : L a) (hb : L b) (sa : Sm (val a)) (sb : Sm (val b)) : Ev fun N => natural_Mul.f N a b = some (lim (val a * val b), ()) := by
  unfold Sm at sa sb
  refine (((view_ok ha).and (view_ok hb)).and (mul_q4 (U_lim (val a)) (U_lim (val b)) (by omega))).mono fun N ⟨⟨h1, h2⟩, h3⟩ => ?_
  unfold natural_Mul.f natural_Mul.q10000003
  rw [h1, h2]
  simp only [Option.bind_some]
  by_cases h0 : (lim (val a)).length = 0
  · rw [if_pos (decide_eq_true (by omega)), lim_len_zero.1 h0, Nat.zero_mul, lim_zero]
    rfl
  · rw [if_neg (by rw [decide_eq_true_eq]; omega)]
    by_cases h0' : (lim (val b)).length = 0
    · rw [if_pos (decide_eq_true (by omega)), lim_len_zero.1 h0', Nat.mul_zero, lim_zero]
    · rw [if_neg (by rw [decide_eq_true_eq]; omega), h3, V_lim, V_lim]

/-! ## A division by one limb -/
theorem short_loop {a : List Int} (ha : U a) {d : Int} (h0 : 0 < d) (h1 : d < 4294967296) (hn : a.length < 4611686018427387904) : ∀ (i : Nat) (r : Int) (q : List Int), i ≤ a.length → U q → q.length = a.length → 0 ≤ r → r < d → val (a.drop i) = val (q.drop i) * d.toNat + r.toNat →
    ∃ (r' : Int) (q' : List Int), U q' ∧ q'.length = a.length ∧ 0 ≤ r' ∧ r' < d ∧ val a = val q' * d.toNat + r'.toNat ∧ ∀ N K m, natural_short.l4 N K (m + i + 1) a d r ((i : Int) - 1) q = K r' q'
  | 0, r, q, hi, hu, hl, hr0, hr1, he => by
    simp only [List.drop_zero] at he
    refine ⟨r, q, hu, hl, hr0, hr1, he, fun N K m => ?_⟩
    show natural_short.p4 N K (natural_short.l4 N K (m + 0)) a d r (((0 : Nat) : Int) - 1) q = _
    unfold natural_short.p4
    rw [if_neg (by simp)]
  | i + 1, r, q, hi, hu, hl, hr0, hr1, he => by
    have e1 : ((i + 1 : Nat) : Int) - 1 = (i : Int) := by omega
    have ia := ha.at i
    have da := V_drop a i (by omega)
    have hrb : r * 4294967296 + 4294967296 ≤ d * 4294967296 := by omega
    have hv0 : 0 ≤ r * 4294967296 + a.getD i 0 := by omega
    have hq0 : 0 ≤ (r * 4294967296 + a.getD i 0) / d := Int.ediv_nonneg hv0 (by omega)
    have hq1 : (r * 4294967296 + a.getD i 0) / d < 4294967296 := Int.ediv_lt_of_lt_mul h0 (by rw [Int.mul_comm 4294967296 d]; omega)
    have hm0 := Int.emod_nonneg (r * 4294967296 + a.getD i 0) (show d ≠ 0 by omega)
    have hm1 := Int.emod_lt_of_pos (r * 4294967296 + a.getD i 0) h0
    have hdm := Int.mul_ediv_add_emod (r * 4294967296 + a.getD i 0) d
    obtain ⟨r', q', k1, k2, k3, k4, k5, k6⟩ := short_loop ha h0 h1 hn i ((r * 4294967296 + a.getD i 0) % d) (q.set i ((r * 4294967296 + a.getD i 0) / d)) (by omega) (hu.set hq0 hq1) (by rw [List.length_set, hl]) hm0 hm1 (by
      rw [da, he, V_set_drop (by omega)]
      generalize a.getD i 0 = x at *
      generalize (r * 4294967296 + x) / d = qq at *
      generalize (r * 4294967296 + x) % d = mm at *
      obtain ⟨x', rfl⟩ := nat_of ia.1
      obtain ⟨r'', rfl⟩ := nat_of hr0
      obtain ⟨d', rfl⟩ := nat_of (show 0 ≤ d by omega)
      obtain ⟨q'', rfl⟩ := nat_of hq0
      obtain ⟨m'', rfl⟩ := nat_of hm0
      simp only [Int.toNat_natCast]
      have hdm' : d' * q'' + m'' = r'' * 4294967296 + x' := by rw [← Int.natCast_mul] at hdm; omega
      grind)
    refine ⟨r', q', k1, k2, k3, k4, k5, fun N K m => ?_⟩
    show natural_short.p4 N K (natural_short.l4 N K (m + (i + 1))) a d r (((i + 1 : Nat) : Int) - 1) q = _
    unfold natural_short.p4
    rw [e1, if_pos (decide_eq_true (by omega)), if_pos (by omega), w64 (n := d) (by omega) (by omega), if_neg (by omega), if_pos (by omega), if_neg (by omega), i2n, p32, w64 (n := r * 4294967296) (by omega) (by omega), w64 ia.1 (by omega), or64 (by omega) ia.1 ia.2 (by omega) (by omega), Int.tdiv_eq_ediv_of_nonneg hv0, Int.tmod_eq_emod_of_nonneg hv0, w64 hq0 (by omega), w32 hq0 hq1, wi (by omega) (by omega)]
    exact k6 N K m
theorem short_ok {a : List Int} (ha : U a) {d : Int} (h0 : 0 < d) (h1 : d < 4294967296) (hn : a.length ≤ 4398046511104) : Ev fun N => natural_short.f N a d = some (lim (val a / d.toNat), ((val a % d.toNat : Nat) : Int), ()) := by
  obtain ⟨r, q, k1, k2, k3, k4, k5, k6⟩ := short_loop ha h0 h1 (by omega) a.length 0 (List.replicate a.length 0) (Nat.le_refl _) (U.rep _) (by simp) (by omega) h0 (by simp [val])
  have hd : 0 < d.toNat := by omega
  have hq : val q = val a / d.toNat := by rw [k5, Nat.mul_comm, Nat.mul_add_div hd, Nat.div_eq_of_lt (by omega)]; rfl
  have hr : r.toNat = val a % d.toNat := by rw [k5, Nat.mul_comm, Nat.mul_add_mod, Nat.mod_eq_of_lt (by omega)]
  refine ((view_ok (a := q) ⟨k1, by omega⟩).and (Ev.ge (a.length + 1))).mono fun N ⟨h7, h8⟩ => ?_
  unfold natural_short.f
  rw [if_pos (by omega), i2n, wi (by omega) (by omega)]
  have := k6 N (fun y7_1 yr6_1 => (natural_view.f N yr6_1).bind fun t3 => (some (t3.1, IntKind.wrap .u32 (y7_1), ()))) (N - (a.length + 1))
  rw [show N - (a.length + 1) + a.length + 1 = N by omega] at this
  refine Eq.trans this ?_
  rw [h7, w32 k3 (by omega), hq]
  simp only [Option.bind_some]
  rw [show r = ((val a % d.toNat : Nat) : Int) by omega]
end Go.Proofs.YtkadllkeekoopaaGreat.Abs.T
end

section
namespace Go.Proofs.YtkadllkeekoopaaGreat.Abs.T
open Go.Proofs.YtkadllkeekoopaaGreat.Abs.Ints Go.Proofs.YtkadllkeekoopaaGreat.Abs.BN

/-! ## Shifts -/
theorem left_loop {a : List Int} (ha : U a) {s : Nat} (hs : s ≤ 31) (hn : a.length < 4611686018427387904) : ∀ (d i : Nat) (out : List Int), i + d = a.length → U out → out.length = a.length + 1 → (∀ j, i < j → out.getD j 0 = 0) → (out.getD i 0).toNat < 2 ^ s → val out = val (a.take i) * 2 ^ s →
    ∃ out', U out' ∧ out'.length = a.length + 1 ∧ val out' = val a * 2 ^ s ∧ (out'.getD a.length 0).toNat < 2 ^ s ∧ ∀ N K m, natural_left.l3 N K (m + d + 1) (s : Int) a (a.length : Int) (i : Int) out = K out'
  | 0, i, out, hi, hu, hl, hz, hb, he => by
    have hi' : i = a.length := by omega
    subst hi'
    rw [V_all (Nat.le_refl _)] at he
    refine ⟨out, hu, hl, he, hb, fun N K m => ?_⟩
    show natural_left.p3 N K (natural_left.l3 N K (m + 0)) (s : Int) a (a.length : Int) (a.length : Int) out = _
    unfold natural_left.p3
    rw [if_neg (by simp)]
  | d + 1, i, out, hi, hu, hl, hz, hb, he => by
    obtain ⟨x, hx, hx2⟩ := at_nat ha i
    obtain ⟨h, hh, hh2⟩ := at_nat hu i
    obtain ⟨hST, hS31⟩ := shift_pair hs
    have hS : 0 < 2 ^ s := Nat.pow_pos (by omega)
    obtain ⟨e1, e2, e3⟩ := shl_parts hST hx2 hS
    have hb' : h < 2 ^ s := by rw [hh] at hb; exact hb
    have hlow : (x * 2 ^ s) % 4294967296 + h < 4294967296 := by
      have h1 : (x * 2 ^ s) % 4294967296 = 2 ^ s * ((x * 2 ^ s) % 4294967296 / 2 ^ s) := by
        have := Nat.div_add_mod ((x * 2 ^ s) % 4294967296) (2 ^ s)
        omega
      have h2 : (x * 2 ^ s) % 4294967296 / 2 ^ s < 2 ^ (32 - s) := Nat.div_lt_of_lt_mul (by rw [hST]; omega)
      have h3 : 2 ^ s * ((x * 2 ^ s) % 4294967296 / 2 ^ s + 1) ≤ 2 ^ s * 2 ^ (32 - s) := Nat.mul_le_mul_left _ h2
      rw [Nat.mul_add, Nat.mul_one, hST] at h3
      omega
    have hor := or32 (l := (x * 2 ^ s) % 4294967296) hb' e1 hh2 (by omega)
    have hz1 := hz (i + 1) (by omega)
    have hu1 : U (out.set i (((h + (x * 2 ^ s) % 4294967296 : Nat)) : Int)) := hu.set (by omega) (by omega)
    have up1 := V_upd (a := out) (p := i) (by omega) (((h + (x * 2 ^ s) % 4294967296 : Nat)) : Int)
    have up2 := V_upd (a := out.set i (((h + (x * 2 ^ s) % 4294967296 : Nat)) : Int)) (p := i + 1) (by rw [List.length_set]; omega) ((((x * 2 ^ s) / 4294967296 : Nat)) : Int)
    rw [lset_ne (by omega), hz1] at up2
    have sa := V_succ a i
    have hhi : (x * 2 ^ s) / 4294967296 < 4294967296 := by omega
    obtain ⟨out', k1, k2, k3, k4, k5⟩ := left_loop ha hs hn d (i + 1) ((out.set i (((h + (x * 2 ^ s) % 4294967296 : Nat)) : Int)).set (i + 1) ((((x * 2 ^ s) / 4294967296 : Nat)) : Int)) (by omega) (hu1.set (by omega) (by omega)) (by simp only [List.length_set]; exact hl)
      (fun j hj => by rw [lset_ne (by omega), lset_ne (by omega), hz j (by omega)])
      (by rw [lset_self (by rw [List.length_set]; omega)]; exact e2)
      (by
        rw [sa, hx]
        rw [hh] at up1
        simp only [Int.toNat_natCast, Int.toNat_zero, Nat.zero_mul, Nat.add_zero] at up1 up2 ⊢
        rw [up2]
        have hp : 4294967296 ^ (i + 1) = 4294967296 * 4294967296 ^ i := by rw [Nat.pow_succ, Nat.mul_comm]
        rw [hp]
        have e4 := Nat.div_add_mod (x * 2 ^ s) 4294967296
        generalize (x * 2 ^ s) / 4294967296 = q at *
        generalize (x * 2 ^ s) % 4294967296 = r at *
        generalize 4294967296 ^ i = w at *
        generalize 2 ^ s = S at *
        grind)
    refine ⟨out', k1, k2, k3, k4, fun N K m => ?_⟩
    show natural_left.p3 N K (natural_left.l3 N K (m + (d + 1))) (s : Int) a (a.length : Int) (i : Int) out = _
    unfold natural_left.p3
    have hmin : min ((s : Int)).toNat 64 = s := by rw [i2n]; omega
    have hp : ((x : Int)) * 2 ^ s = ((x * 2 ^ s : Nat) : Int) := by rw [Int.natCast_mul, Int.natCast_pow]; rfl
    rw [if_pos (decide_eq_true (by omega)), if_pos (by omega), if_neg (by omega), if_pos (by omega), if_pos (by omega), i2n, hmin, hx, w64 (n := (x : Int)) (by omega) (by omega), hp, w64 (n := ((x * 2 ^ s : Nat) : Int)) (by omega) (by omega), w32m, p32, wi (n := (i : Int) + 1) (by omega) (by omega), hh]
    have m1 : (((x * 2 ^ s : Nat)) : Int) % 4294967296 = ((((x * 2 ^ s) % 4294967296 : Nat)) : Int) := by omega
    have m2 : (((x * 2 ^ s : Nat)) : Int) / 4294967296 = ((((x * 2 ^ s) / 4294967296 : Nat)) : Int) := by omega
    rw [m1, m2, hor, w32 (by omega) (by omega), if_pos (by rw [List.length_set]; omega), cast1, i2n]
    exact k5 N K m
theorem left_ok {a : List Int} (ha : U a) {s : Nat} (hs : s ≤ 31) (hn : a.length ≤ 4398046511104) : ∃ out, U out ∧ out.length = a.length + 1 ∧ val out = val a * 2 ^ s ∧ (out.getD a.length 0).toNat < 2 ^ s ∧ Ev fun N => natural_left.f N a (s : Int) = some (out, ()) := by
  have hz : ∀ j, (List.replicate (a.length + 1) (0 : Int)).getD j 0 = 0 := fun j => by
    by_cases hj : j < a.length + 1
    · rw [lin (by simpa using hj)]; simp
    · exact lout (by simpa using hj)
  obtain ⟨out, h1, h2, h3, h4, h5⟩ := left_loop ha hs (by omega) a.length 0 (List.replicate (a.length + 1) 0) (by omega) (U.rep _) (by simp) (fun j _ => hz j) (by rw [hz]; exact Nat.pow_pos (by omega)) (by simp [val, V_rep])
  refine ⟨out, h1, h2, h3, h4, (Ev.ge (a.length + 1)).mono fun N h8 => ?_⟩
  unfold natural_left.f
  rw [wi (by omega) (by omega), if_pos (by omega)]
  have := h5 N (fun yr5_1 => some (yr5_1, ())) (N - (a.length + 1))
  rw [show N - (a.length + 1) + a.length + 1 = N by omega] at this
  exact this

theorem right_loop {a : List Int} (ha : U a) {s : Nat} (hs : s ≤ 31) (hn : a.length < 4611686018427387904) : ∀ (d i : Nat) (out : List Int), i + d = a.length → U out → out.length = a.length → val (out.take i) * 2 ^ s + (a.getD 0 0).toNat % 2 ^ s = val (a.take i) + ((a.getD i 0).toNat % 2 ^ s) * 4294967296 ^ i →
    ∃ out', U out' ∧ out'.length = a.length ∧ val out' * 2 ^ s + (a.getD 0 0).toNat % 2 ^ s = val a ∧ ∀ N K m, natural_right.l3 N K (m + d + 1) a (s : Int) a (a.length : Int) (i : Int) out = K out'
  | 0, i, out, hi, hu, hl, he => by
    have hi' : i = a.length := by omega
    subst hi'
    rw [V_all (by omega), V_all (Nat.le_refl _), lout (Nat.le_refl _)] at he
    refine ⟨out, hu, hl, by simpa using he, fun N K m => ?_⟩
    show natural_right.p3 N K (natural_right.l3 N K (m + 0)) a (s : Int) a (a.length : Int) (a.length : Int) out = _
    unfold natural_right.p3
    rw [if_neg (by simp)]
  | d + 1, i, out, hi, hu, hl, he => by
    obtain ⟨x, hx, hx2⟩ := at_nat ha i
    obtain ⟨y, hy, hy2⟩ := at_nat ha (i + 1)
    obtain ⟨hST, hS31⟩ := shift_pair hs
    have hS : 0 < 2 ^ s := Nat.pow_pos (by omega)
    have hsh := shr_parts (y := y) hST hx2 hS
    have sa := V_succ a i
    have so := V_set (a := out) (i := i) (by omega) ((((x + y * 4294967296) / 2 ^ s % 4294967296 : Nat)) : Int)
    obtain ⟨out', k1, k2, k3, k4⟩ := right_loop ha hs hn d (i + 1) (out.set i ((((x + y * 4294967296) / 2 ^ s % 4294967296 : Nat)) : Int)) (by omega) (hu.set (by omega) (by omega)) (by rw [List.length_set, hl]) (by
      rw [so, sa, hx, hy]
      rw [hx] at he
      rw [Int.toNat_natCast] at he
      rw [Int.toNat_natCast, Int.toNat_natCast, Int.toNat_natCast]
      have hp : 4294967296 ^ (i + 1) = 4294967296 * 4294967296 ^ i := by rw [Nat.pow_succ, Nat.mul_comm]
      rw [hp]
      have hxm := Nat.div_add_mod x (2 ^ s)
      generalize (x + y * 4294967296) / 2 ^ s % 4294967296 = o at *
      generalize (a.getD 0 0).toNat % 2 ^ s = r at *
      generalize x % 2 ^ s = xm at *
      generalize y % 2 ^ s = ym at *
      generalize x / 2 ^ s = xq at *
      generalize 4294967296 ^ i = w at *
      generalize 2 ^ s = S at *
      grind)
    refine ⟨out', k1, k2, k3, fun N K m => ?_⟩
    show natural_right.p3 N K (natural_right.l3 N K (m + (d + 1))) a (s : Int) a (a.length : Int) (i : Int) out = _
    unfold natural_right.p3 natural_right.q8 natural_right.q9
    dsimp only
    have hmin : min ((s : Int)).toNat 64 = s := by rw [i2n]; omega
    have hdiv : ∀ n : Nat, ((n : Int)) / 2 ^ s = ((n / 2 ^ s : Nat) : Int) := fun n => by rw [Int.natCast_ediv, Int.natCast_pow]; rfl
    rw [if_pos (decide_eq_true (by omega)), if_pos (by omega), wi (n := (i : Int) + 1) (by omega) (by omega), i2n, hmin, hx, w64 (n := (x : Int)) (by omega) (by omega)]
    by_cases hi1 : (i : Int) + 1 < (a.length : Int)
    · rw [if_pos (decide_eq_true hi1), if_pos (by omega), cast1, i2n, hy, p32, w64 (n := (y : Int)) (by omega) (by omega), w64 (by omega) (by omega), or64' (by omega) (by omega) (by omega) (by omega) (by omega), if_neg (by omega), if_pos (by omega)]
      have e : (x : Int) + (y : Int) * 4294967296 = ((x + y * 4294967296 : Nat) : Int) := by omega
      rw [e, hdiv, w32m, show (((x + y * 4294967296) / 2 ^ s : Nat) : Int) % 4294967296 = ((((x + y * 4294967296) / 2 ^ s % 4294967296 : Nat)) : Int) by omega]
      exact k4 N K m
    · have hy0 : y = 0 := by
        have := lout (a := a) (i := i + 1) (by omega)
        omega
      subst hy0
      rw [if_neg (by rw [decide_eq_true_eq]; exact hi1), if_neg (by omega), if_pos (by omega), hdiv, w32m]
      simp only [Nat.zero_mul, Nat.add_zero] at k4
      rw [show ((x / 2 ^ s : Nat) : Int) % 4294967296 = (((x / 2 ^ s % 4294967296 : Nat)) : Int) by omega, cast1]
      exact k4 N K m
theorem right_ok {a : List Int} (ha : U a) {s : Nat} (hs : s ≤ 31) (hn : a.length ≤ 4398046511104) : Ev fun N => natural_right.f N a (s : Int) = some (lim (val a / 2 ^ s), ()) := by
  obtain ⟨out, h1, h2, h3, h4⟩ := right_loop ha hs (by omega) a.length 0 (List.replicate a.length 0) (by omega) (U.rep _) (by simp) (by simp [val])
  have hS : 0 < 2 ^ s := Nat.pow_pos (by omega)
  have hv : val out = val a / 2 ^ s := by
    have := Nat.mod_lt ((a.getD 0 0).toNat) hS
    rw [← h3, Nat.mul_comm, Nat.mul_add_div hS, Nat.div_eq_of_lt this]
    rfl
  refine ((view_ok (a := out) ⟨h1, by omega⟩).and (Ev.ge (a.length + 1))).mono fun N ⟨h7, h8⟩ => ?_
  unfold natural_right.f
  rw [if_pos (by omega), i2n]
  have := h4 N (fun yr5_17 => (natural_view.f N yr5_17).bind fun t19 => (some (t19.1, ()))) (N - (a.length + 1))
  rw [show N - (a.length + 1) + a.length + 1 = N by omega] at this
  refine Eq.trans this ?_
  rw [h7, hv]
  rfl
end Go.Proofs.YtkadllkeekoopaaGreat.Abs.T
end

section
namespace Go.Proofs.YtkadllkeekoopaaGreat.Abs.T
open Go.Proofs.YtkadllkeekoopaaGreat.Abs.Ints Go.Proofs.YtkadllkeekoopaaGreat.Abs.BN
set_option maxRecDepth 10000

theorem est_loop {top sec u2 u1 u0 P v' w' vv W : Nat} (E : Est top sec u2 u1 u0 P v' w' vv W) {w : List Int} {n : Nat} (hn : 2 ≤ n) (hl : w.length = n + 1) (hlen : n < 4611686018427387904) (h0 : w.getD (n - 2) 0 = (u0 : Int)) : ∀ (g r : Nat), g * top + r = u2 * 4294967296 + u1 → g ≤ 4294967297 → r < 4294967296 → W / vv ≤ g →
    ∃ g', W / vv ≤ g' ∧ g' ≤ W / vv + 1 ∧ g' < 4294967296 ∧ ∀ N K m, natural_estimate.l5 N K (m + g + 1) w (n : Int) (top : Int) (sec : Int) (g : Int) (r : Int) = K (g' : Int) := by
  intro g
  induction g with
  | zero =>
    intro r h hg hr hq
    have hno : ¬ r * 4294967296 + (u0 + 1) ≤ 0 * sec := by omega
    refine ⟨0, hq, Nat.zero_le _, by omega, fun N K m => ?_⟩
    show natural_estimate.p5 N K (natural_estimate.l5 N K (m + 0)) w (n : Int) (top : Int) (sec : Int) ((0 : Nat) : Int) (r : Int) = _
    unfold natural_estimate.p5
    have s0 := E.sec2
    have b0 := E.u0b
    have w2 : IntKind.wrap .i64 ((n : Int) - 2) = ((n - 2 : Nat) : Int) := by rw [wi (by omega) (by omega)]; omega
    rw [p32, if_neg (by simp), w2, if_pos (by omega), i2n, h0, w64 (n := (r : Int) * 4294967296) (by omega) (by omega), w64 (n := (u0 : Int)) (by omega) (by omega), or64 (by omega) (by omega) (by omega) (by omega) (by omega), show ((0 : Nat) : Int) * (sec : Int) = 0 by simp, w64 (by omega) (by omega), if_neg (by rw [decide_eq_true_eq]; omega)]
  | succ g ih =>
    intro r h hg hr hq
    have s0 := E.sec2
    have b0 := E.u0b
    have t1 := E.top1
    have t2 := E.top2
    have h' : g * top + (r + top) = u2 * 4294967296 + u1 := by rw [← h, Nat.succ_mul]; omega
    have w2 : IntKind.wrap .i64 ((n : Int) - 2) = ((n - 2 : Nat) : Int) := by rw [wi (by omega) (by omega)]; omega
    have wg : IntKind.wrap .u64 (((g + 1 : Nat) : Int) - 1) = (g : Int) := by rw [w64 (by omega) (by omega)]; omega
    have wr : IntKind.wrap .u64 ((r : Int) + (top : Int)) = ((r + top : Nat) : Int) := by rw [w64 (by omega) (by omega)]; omega
    -- one step down
    have down : W / vv < g + 1 → ∃ g', W / vv ≤ g' ∧ g' ≤ W / vv + 1 ∧ g' < 4294967296 ∧ ∀ N K m, natural_estimate.q6 N (fun y0 y5 y6 y7 y9 y10 => natural_estimate.l5 N K (m + g + 1) y0 y5 y6 y7 y9 y10) (fun y9 => K y9) w (n : Int) (top : Int) (sec : Int) ((g + 1 : Nat) : Int) (r : Int) = K (g' : Int) := fun hlt => by
      by_cases hr' : r + top < 4294967296
      · obtain ⟨g', k1, k2, k3, k4⟩ := ih (r + top) h' (by omega) hr' (by omega)
        refine ⟨g', k1, k2, k3, fun N K m => ?_⟩
        unfold natural_estimate.q6
        rw [wr, wg, p32, if_neg (by simp; omega)]
        exact k4 N K m
      · have hd := E.done2 h' (by omega) (by omega)
        have := E.qlt
        refine ⟨g, by omega, by omega, by omega, fun N K m => ?_⟩
        unfold natural_estimate.q6
        rw [wr, wg, p32, if_pos (by simp; omega)]
    by_cases hb : 4294967296 ≤ g + 1
    · obtain ⟨g', k1, k2, k3, k4⟩ := down (E.dec h (.inl hb))
      refine ⟨g', k1, k2, k3, fun N K m => ?_⟩
      show natural_estimate.p5 N K (natural_estimate.l5 N K (m + (g + 1))) w (n : Int) (top : Int) (sec : Int) ((g + 1 : Nat) : Int) (r : Int) = _
      unfold natural_estimate.p5
      rw [p32, if_pos (by simp; omega)]
      exact k4 N K m
    · have hgs : (((g + 1 : Nat) : Int)) * (sec : Int) = (((g + 1) * sec : Nat) : Int) := by rw [Int.natCast_mul]
      have hgb : (g + 1) * sec ≤ 4294967295 * 4294967295 := Nat.mul_le_mul (by omega) (by omega)
      by_cases hc : r * 4294967296 + (u0 + 1) ≤ (g + 1) * sec
      · obtain ⟨g', k1, k2, k3, k4⟩ := down (E.dec h (.inr hc))
        refine ⟨g', k1, k2, k3, fun N K m => ?_⟩
        show natural_estimate.p5 N K (natural_estimate.l5 N K (m + (g + 1))) w (n : Int) (top : Int) (sec : Int) ((g + 1 : Nat) : Int) (r : Int) = _
        unfold natural_estimate.p5
        rw [p32, if_neg (by simp; omega), w2, if_pos (by omega), i2n, h0, w64 (n := (r : Int) * 4294967296) (by omega) (by omega), w64 (n := (u0 : Int)) (by omega) (by omega), or64 (by omega) (by omega) (by omega) (by omega) (by omega), hgs, w64 (n := (((g + 1) * sec : Nat) : Int)) (by omega) (by omega), if_pos (decide_eq_true (by omega))]
        exact k4 N K m
      · have hd := E.done1 h (by omega) (by omega)
        refine ⟨g + 1, hq, hd, by omega, fun N K m => ?_⟩
        show natural_estimate.p5 N K (natural_estimate.l5 N K (m + (g + 1))) w (n : Int) (top : Int) (sec : Int) ((g + 1 : Nat) : Int) (r : Int) = _
        unfold natural_estimate.p5
        rw [p32, if_neg (by simp; omega), w2, if_pos (by omega), i2n, h0, w64 (n := (r : Int) * 4294967296) (by omega) (by omega), w64 (n := (u0 : Int)) (by omega) (by omega), or64 (by omega) (by omega) (by omega) (by omega) (by omega), hgs, w64 (n := (((g + 1) * sec : Nat) : Int)) (by omega) (by omega), if_neg (by rw [decide_eq_true_eq]; omega)]
theorem est_ok {w v : List Int} (hw : U w) (hv : U v) {n : Nat} (hn : 2 ≤ n) (hwl : w.length = n + 1) (hvl : v.length = n) (hlen : n < 4611686018427387904) (ht : 2147483648 ≤ v.getD (n - 1) 0) (hlt : val w < 4294967296 * val v) :
    ∃ g : Nat, val w / val v ≤ g ∧ g ≤ val w / val v + 1 ∧ g < 4294967296 ∧ Ev fun N => natural_estimate.f N w v = some ((g : Int), ()) := by
  obtain ⟨top, e1, b1⟩ := at_nat hv (n - 1)
  obtain ⟨sec, e2, b2⟩ := at_nat hv (n - 2)
  obtain ⟨u2, e3, b3⟩ := at_nat hw n
  obtain ⟨u1, e4, b4⟩ := at_nat hw (n - 1)
  obtain ⟨u0, e5, b5⟩ := at_nat hw (n - 2)
  have sv1 := V_succ v (n - 1)
  have sv2 := V_succ v (n - 2)
  have sw1 := V_succ w n
  have sw2 := V_succ w (n - 1)
  have sw3 := V_succ w (n - 2)
  rw [show n - 1 + 1 = n by omega] at sv1 sw2
  rw [show n - 2 + 1 = n - 1 by omega] at sv2 sw3
  rw [V_all (by omega)] at sv1 sw1
  rw [e1, Int.toNat_natCast] at sv1
  rw [e2, Int.toNat_natCast] at sv2
  rw [e3, Int.toNat_natCast] at sw1
  rw [e4, Int.toNat_natCast] at sw2
  rw [e5, Int.toNat_natCast] at sw3
  have tv := V_take_lt hv (n - 2)
  have tw := V_take_lt hw (n - 2)
  have p1 : 4294967296 ^ (n - 1) = 4294967296 * 4294967296 ^ (n - 2) := by rw [show n - 1 = n - 2 + 1 by omega, Nat.pow_succ, Nat.mul_comm]
  have p2 : 4294967296 ^ n = 4294967296 * (4294967296 * 4294967296 ^ (n - 2)) := by rw [← p1, show n = n - 1 + 1 by omega, Nat.pow_succ, Nat.mul_comm, show n - 1 + 1 - 1 = n - 1 by omega]
  have hE : Est top sec u2 u1 u0 (4294967296 ^ (n - 2)) (val (v.take (n - 2))) (val (w.take (n - 2))) (val v) (val w) := by
    refine ⟨by omega, b1, b2, b5, b4, pow_pos' _, tv, tw, ?_, ?_, hlt⟩
    · rw [sv1, sv2, p1]; grind
    · rw [sw1, sw2, sw3, p1, p2]; grind
  have hs := hE.start
  have t1 := hE.top1
  have hdm := Nat.div_add_mod (u2 * 4294967296 + u1) top
  have hml := Nat.mod_lt (u2 * 4294967296 + u1) (show 0 < top by omega)
  obtain ⟨g, k1, k2, k3, k4⟩ := est_loop hE hn hwl hlen e5 ((u2 * 4294967296 + u1) / top) ((u2 * 4294967296 + u1) % top) (by rw [Nat.mul_comm]; exact hdm) hs.2 (by omega) hs.1
  refine ⟨g, k1, k2, k3, (Ev.ge ((u2 * 4294967296 + u1) / top + 1)).mono fun N hN => ?_⟩
  unfold natural_estimate.f
  have w1 : IntKind.wrap .i64 ((v.length : Int) - 1) = ((n - 1 : Nat) : Int) := by rw [wi (by omega) (by omega)]; omega
  have w2 : IntKind.wrap .i64 ((v.length : Int) - 2) = ((n - 2 : Nat) : Int) := by rw [wi (by omega) (by omega)]; omega
  rw [w1, w2, if_pos (by omega), if_pos (by omega), if_pos (by omega), if_pos (by omega), i2n, i2n, i2n, hvl, e1, e2, e3, e4, p32]
  rw [w64 (n := (top : Int)) (by omega) (by omega), if_neg (by omega), if_neg (by omega), w64 (n := (sec : Int)) (by omega) (by omega), w64 (n := (u2 : Int)) (by omega) (by omega), w64 (n := (u2 : Int) * 4294967296) (by omega) (by omega), w64 (n := (u1 : Int)) (by omega) (by omega), or64 (by omega) (by omega) (by omega) (by omega) (by omega)]
  have en : (u2 : Int) * 4294967296 + (u1 : Int) = ((u2 * 4294967296 + u1 : Nat) : Int) := by omega
  have ed : ((u2 * 4294967296 + u1 : Nat) : Int).tdiv (top : Int) = (((u2 * 4294967296 + u1) / top : Nat) : Int) := by rw [Int.tdiv_eq_ediv_of_nonneg (by omega)]; rfl
  have em : ((u2 * 4294967296 + u1 : Nat) : Int).tmod (top : Int) = (((u2 * 4294967296 + u1) % top : Nat) : Int) := by rw [Int.tmod_eq_emod_of_nonneg (by omega)]; rfl
  generalize (u2 * 4294967296 + u1) / top = q0 at *
  generalize (u2 * 4294967296 + u1) % top = r0 at *
  rw [en, ed, em, w64 (by omega) (by omega)]
  have := k4 N (fun y9_17 => some (y9_17, ())) (N - (q0 + 1))
  rw [show N - (q0 + 1) + q0 + 1 = N by omega] at this
  exact this
end Go.Proofs.YtkadllkeekoopaaGreat.Abs.T
end

section
namespace Go.Proofs.YtkadllkeekoopaaGreat.Abs.T
open Go.Proofs.YtkadllkeekoopaaGreat.Abs.Ints Go.Proofs.YtkadllkeekoopaaGreat.Abs.BN
set_option maxRecDepth 10000

theorem sub_step {g x c b o : Nat} (hg : g < 4294967296) (hx : x < 4294967296) (hc : c < 4294967296) (hb : b ≤ 1) (ho : o < 4294967296) :
    ∃ (ph o' b' : Nat), ph < 4294967296 ∧ o' < 4294967296 ∧ b' ≤ 1 ∧ o' + g * x + c + b = o + 4294967296 * (ph + b') ∧
      IntKind.wrap .u64 (IntKind.wrap .u64 ((g : Int) * IntKind.wrap .u64 (x : Int)) + (c : Int)) / 2 ^ 32 = (ph : Int) ∧
      IntKind.wrap .u64 (IntKind.wrap .u64 (IntKind.wrap .u64 (o : Int) - IntKind.wrap .u64 (IntKind.wrap .u32 (IntKind.wrap .u64 (IntKind.wrap .u64 ((g : Int) * IntKind.wrap .u64 (x : Int)) + (c : Int))))) - (b : Int)) / 2 ^ 63 = (b' : Int) ∧
      IntKind.wrap .u32 (IntKind.wrap .u64 (IntKind.wrap .u64 (IntKind.wrap .u64 (o : Int) - IntKind.wrap .u64 (IntKind.wrap .u32 (IntKind.wrap .u64 (IntKind.wrap .u64 ((g : Int) * IntKind.wrap .u64 (x : Int)) + (c : Int))))) - (b : Int))) = (o' : Int) := by
  have hgx : g * x ≤ 4294967295 * 4294967295 := Nat.mul_le_mul (by omega) (by omega)
  obtain ⟨p, hp⟩ : ∃ p, g * x = p := ⟨_, rfl⟩
  have e1 : (g : Int) * (x : Int) = (p : Int) := by rw [← hp, Int.natCast_mul]
  rw [hp] at hgx ⊢
  rw [w64 (n := (x : Int)) (by omega) (by omega), e1, w64 (n := (p : Int)) (by omega) (by omega), w64 (n := (p : Int) + (c : Int)) (by omega) (by omega), w64 (n := (o : Int)) (by omega) (by omega), p32, p63, w32m, w64 (n := ((p : Int) + (c : Int)) % 4294967296) (by omega) (by omega), w64m, w64m, w32m]
  refine ⟨(p + c) / 4294967296, (((o : Int) - ((p : Int) + (c : Int)) % 4294967296 - (b : Int)) % 4294967296).toNat, if o < (p + c) % 4294967296 + b then 1 else 0, by omega, by omega, by split <;> omega, ?_, by omega, ?_, by omega⟩
  · split <;> omega
  · split <;> omega

theorem subtract_loop {v : List Int} (hv : U v) {g : Nat} (hg : g < 4294967296) {j wn : Nat} (hwn : v.length < wn) : ∀ (d i c b : Nat) (u : List Int), i + d = v.length → U u → j + v.length < u.length → u.length < 4611686018427387904 → c < 4294967296 → b ≤ 1 →
    ∃ (c' b' : Nat) (u' : List Int), c' < 4294967296 ∧ b' ≤ 1 ∧ U u' ∧ u'.length = u.length ∧ (∀ p, (p < j ∨ j + v.length ≤ p) → u'.getD p 0 = u.getD p 0) ∧
      val u' + g * val v * 4294967296 ^ j + (c + b) * 4294967296 ^ (j + i) = val u + g * val (v.take i) * 4294967296 ^ j + (c' + b') * 4294967296 ^ (j + v.length) ∧
      ∀ N K m, natural_subtract.l3 N K (m + d + 1) j wn v (g : Int) (c : Int) (b : Int) v (v.length : Int) (i : Int) u = K j wn v (c' : Int) (b' : Int) u'
  | 0, i, c, b, u, hi, hu, hl, hl2, hc, hb => by
    have hi' : i = v.length := by omega
    subst hi'
    refine ⟨c, b, u, hc, hb, hu, rfl, fun p _ => rfl, by rw [V_all (Nat.le_refl _)], fun N K m => ?_⟩
    show natural_subtract.p3 N K (natural_subtract.l3 N K (m + 0)) j wn v (g : Int) (c : Int) (b : Int) v (v.length : Int) (v.length : Int) u = _
    unfold natural_subtract.p3
    rw [if_neg (by simp)]
  | d + 1, i, c, b, u, hi, hu, hl, hl2, hc, hb => by
    obtain ⟨x, hx, hx2⟩ := at_nat hv i
    obtain ⟨o, ho, ho2⟩ := at_nat hu (j + i)
    obtain ⟨ph, o', b', s1, s2, s3, s4, s5, s6, s7⟩ := sub_step hg hx2 hc hb ho2
    obtain ⟨c2, b2, u2, k1, k2, k3, k4, k5, k6, k7⟩ := subtract_loop hv hg hwn d (i + 1) ph b' (u.set (j + i) (o' : Int)) (by omega) (hu.set (by omega) (by omega)) (by rw [List.length_set]; exact hl) (by rw [List.length_set]; exact hl2) s1 s3
    rw [List.length_set] at k4
    refine ⟨c2, b2, u2, k1, k2, k3, k4, fun p hp => ?_, ?_, fun N K m => ?_⟩
    · rw [k5 p hp, lset_ne (by omega)]
    · have hupd := V_upd (a := u) (p := j + i) (by omega) (o' : Int)
      have sv := V_succ v i
      rw [ho, Int.toNat_natCast, Int.toNat_natCast] at hupd
      rw [hx, Int.toNat_natCast] at sv
      rw [sv] at k6
      have p1 : 4294967296 ^ (j + (i + 1)) = 4294967296 * 4294967296 ^ (j + i) := by rw [← Nat.add_assoc, Nat.pow_succ, Nat.mul_comm]
      have p2 : 4294967296 ^ (j + i) = 4294967296 ^ j * 4294967296 ^ i := Nat.pow_add ..
      rw [p1, p2] at k6
      rw [p2] at hupd ⊢
      generalize 4294967296 ^ j = wj at *
      generalize 4294967296 ^ i = wi' at *
      generalize 4294967296 ^ (j + v.length) = wl at *
      grind
    · show natural_subtract.p3 N K (natural_subtract.l3 N K (m + (d + 1))) j wn v (g : Int) (c : Int) (b : Int) v (v.length : Int) (i : Int) u = _
      unfold natural_subtract.p3
      rw [if_pos (decide_eq_true (by omega)), if_pos (by omega), if_pos (by omega), if_pos (by omega), i2n, hx, ho, s5, s6, s7, wi (by omega) (by omega)]
      exact k7 N K m
theorem subtract_ok {v : List Int} (hv : U v) {g : Nat} (hg : g < 4294967296) {j : Nat} {u : List Int} (hu : U u) (hl : j + v.length < u.length) (hl2 : u.length < 4611686018427387904) :
    ∃ (neg : Bool) (u' : List Int), U u' ∧ u'.length = u.length ∧ (∀ p, (p < j ∨ j + v.length < p) → u'.getD p 0 = u.getD p 0) ∧ val u' + g * val v * 4294967296 ^ j = val u + (if neg then 1 else 0) * 4294967296 ^ (j + v.length + 1) ∧
      Ev fun N => natural_subtract.f N j (v.length + 1) v (g : Int) u = some (neg, u', ()) := by
  obtain ⟨c, b, u1, k1, k2, k3, k4, k5, k6, k7⟩ := subtract_loop hv hg (j := j) (wn := v.length + 1) (by omega) v.length 0 0 0 u (by omega) hu hl hl2 (by omega) (by omega)
  obtain ⟨o, ho, ho2⟩ := at_nat k3 (j + v.length)
  have hd : ((o : Int) - (c : Int) - (b : Int)) % 4294967296 = ((((o : Int) - (c : Int) - (b : Int)) % 4294967296).toNat : Int) := by omega
  have hupd := V_upd (a := u1) (p := j + v.length) (by omega) (((((o : Int) - (c : Int) - (b : Int)) % 4294967296).toNat : Nat) : Int)
  rw [ho, Int.toNat_natCast, Int.toNat_natCast] at hupd
  refine ⟨decide (o < c + b), u1.set (j + v.length) (((((o : Int) - (c : Int) - (b : Int)) % 4294967296).toNat : Nat) : Int), k3.set (by omega) (by omega), by rw [List.length_set, k4], fun p hp => ?_, ?_, (Ev.ge (v.length + 1)).mono fun N hN => ?_⟩
  · rw [lset_ne (by omega), k5 p (by omega)]
  · have hs : ((((o : Int) - (c : Int) - (b : Int)) % 4294967296).toNat) + (c + b) = o + (if decide (o < c + b) then 1 else 0) * 4294967296 := by
      by_cases h : o < c + b
      · rw [decide_eq_true h, if_pos rfl]; omega
      · rw [decide_eq_false h, if_neg (by simp)]; omega
    have p1 : 4294967296 ^ (j + v.length + 1) = 4294967296 * 4294967296 ^ (j + v.length) := by rw [Nat.pow_succ, Nat.mul_comm]
    rw [p1]
    simp only [List.take_zero, val, Nat.mul_zero, Nat.zero_mul, Nat.add_zero] at k6
    generalize (((o : Int) - (c : Int) - (b : Int)) % 4294967296).toNat = o' at *
    generalize (if decide (o < c + b) then 1 else 0) = q at *
    generalize 4294967296 ^ (j + v.length) = wl at *
    generalize 4294967296 ^ j = wj at *
    grind
  · unfold natural_subtract.f
    have := k7 N (fun y0a_1 y0n_1 y1_1 y7_1 y8_1 yr220000_1 => if (0 : Int) ≤ (y1_1.length : Int) ∧ (y1_1.length : Int) < ((y0n_1 : Nat) : Int) then (if (0 : Int) ≤ (y1_1.length : Int) ∧ (y1_1.length : Int) < ((y0n_1 : Nat) : Int) then (some (!decide ((IntKind.wrap .u64 ((IntKind.wrap .u64 ((IntKind.wrap .u64 ((yr220000_1.getD (y0a_1 + (((y1_1.length : Int) : Int).toNat)) (0 : Int)))) - y7_1)) - y8_1)) / 2 ^ 63 = 0), (yr220000_1.set (y0a_1 + (((y1_1.length : Int) : Int).toNat)) (IntKind.wrap .u32 (IntKind.wrap .u64 ((IntKind.wrap .u64 ((IntKind.wrap .u64 ((yr220000_1.getD (y0a_1 + (((y1_1.length : Int) : Int).toNat)) (0 : Int)))) - y7_1)) - y8_1)))), ())) else none) else none) (N - (v.length + 1))
    rw [show N - (v.length + 1) + v.length + 1 = N by omega] at this
    refine Eq.trans this ?_
    rw [if_pos (by omega), if_pos (by omega), i2n, ho, w64 (n := (o : Int)) (by omega) (by omega), w64m, w64m, w32m, p63]
    have e1 : (((o : Int) - (c : Int)) % 18446744073709551616 - (b : Int)) % 18446744073709551616 % 4294967296 = ((((o : Int) - (c : Int) - (b : Int)) % 4294967296).toNat : Int) := by omega
    have e2 : (!decide ((((o : Int) - (c : Int)) % 18446744073709551616 - (b : Int)) % 18446744073709551616 / 9223372036854775808 = 0)) = decide (o < c + b) := by
      by_cases h : o < c + b
      · rw [decide_eq_true h, decide_eq_false (by omega)]; rfl
      · rw [decide_eq_false h, decide_eq_true (by omega)]; rfl
    rw [e1, e2]

theorem restore_loop {v : List Int} (hv : U v) {j wn : Nat} (hwn : v.length < wn) : ∀ (d i c : Nat) (u : List Int), i + d = v.length → U u → j + v.length < u.length → u.length < 4611686018427387904 → c ≤ 1 →
    ∃ (c' : Nat) (u' : List Int), c' ≤ 1 ∧ U u' ∧ u'.length = u.length ∧ (∀ p, (p < j ∨ j + v.length ≤ p) → u'.getD p 0 = u.getD p 0) ∧
      val u' + val (v.take i) * 4294967296 ^ j + c' * 4294967296 ^ (j + v.length) = val u + val v * 4294967296 ^ j + c * 4294967296 ^ (j + i) ∧
      ∀ N K m, natural_restore.l2 N K (m + d + 1) j wn v (c : Int) v (v.length : Int) (i : Int) u = K j wn v (c' : Int) u'
  | 0, i, c, u, hi, hu, hl, hl2, hc => by
    have hi' : i = v.length := by omega
    subst hi'
    refine ⟨c, u, hc, hu, rfl, fun p _ => rfl, by rw [V_all (Nat.le_refl _)], fun N K m => ?_⟩
    show natural_restore.p2 N K (natural_restore.l2 N K (m + 0)) j wn v (c : Int) v (v.length : Int) (v.length : Int) u = _
    unfold natural_restore.p2
    rw [if_neg (by simp)]
  | d + 1, i, c, u, hi, hu, hl, hl2, hc => by
    obtain ⟨x, hx, hx2⟩ := at_nat hv i
    obtain ⟨o, ho, ho2⟩ := at_nat hu (j + i)
    obtain ⟨c2, u2, k1, k3, k4, k5, k6, k7⟩ := restore_loop hv hwn d (i + 1) ((o + x + c) / 4294967296) (u.set (j + i) (((o + x + c) % 4294967296 : Nat) : Int)) (by omega) (hu.set (by omega) (by omega)) (by rw [List.length_set]; exact hl) (by rw [List.length_set]; exact hl2) (by omega)
    rw [List.length_set] at k4
    refine ⟨c2, u2, k1, k3, k4, fun p hp => ?_, ?_, fun N K m => ?_⟩
    · rw [k5 p hp, lset_ne (by omega)]
    · have hupd := V_upd (a := u) (p := j + i) (by omega) (((o + x + c) % 4294967296 : Nat) : Int)
      have sv := V_succ v i
      rw [ho, Int.toNat_natCast, Int.toNat_natCast] at hupd
      rw [hx, Int.toNat_natCast] at sv
      rw [sv] at k6
      have p1 : 4294967296 ^ (j + (i + 1)) = 4294967296 * 4294967296 ^ (j + i) := by rw [← Nat.add_assoc, Nat.pow_succ, Nat.mul_comm]
      have p2 : 4294967296 ^ (j + i) = 4294967296 ^ j * 4294967296 ^ i := Nat.pow_add ..
      have e4 := Nat.div_add_mod (o + x + c) 4294967296
      rw [p1, p2] at k6
      rw [p2] at hupd ⊢
      generalize (o + x + c) / 4294967296 = q at *
      generalize (o + x + c) % 4294967296 = r at *
      generalize 4294967296 ^ j = wj at *
      generalize 4294967296 ^ i = wi' at *
      generalize 4294967296 ^ (j + v.length) = wl at *
      grind
    · show natural_restore.p2 N K (natural_restore.l2 N K (m + (d + 1))) j wn v (c : Int) v (v.length : Int) (i : Int) u = _
      unfold natural_restore.p2
      rw [if_pos (decide_eq_true (by omega)), if_pos (by omega), if_pos (by omega), if_pos (by omega), i2n, hx, ho, w64 (n := (o : Int)) (by omega) (by omega), w64 (n := (x : Int)) (by omega) (by omega), w64 (n := (o : Int) + (x : Int)) (by omega) (by omega), w64 (by omega) (by omega), p32, w32m, wi (by omega) (by omega)]
      rw [show ((o : Int) + (x : Int) + (c : Int)) / 4294967296 = (((o + x + c) / 4294967296 : Nat) : Int) by omega, show ((o : Int) + (x : Int) + (c : Int)) % 4294967296 = (((o + x + c) % 4294967296 : Nat) : Int) by omega]
      exact k7 N K m
theorem restore_ok {v : List Int} (hv : U v) {j : Nat} {u : List Int} (hu : U u) (hl : j + v.length < u.length) (hl2 : u.length < 4611686018427387904) :
    ∃ (c : Nat) (u' : List Int), U u' ∧ u'.length = u.length ∧ (∀ p, (p < j ∨ j + v.length < p) → u'.getD p 0 = u.getD p 0) ∧ val u' + c * 4294967296 ^ (j + v.length + 1) = val u + val v * 4294967296 ^ j ∧
      Ev fun N => natural_restore.f N j (v.length + 1) v u = some (u', ()) := by
  obtain ⟨c, u1, k1, k3, k4, k5, k6, k7⟩ := restore_loop hv (j := j) (wn := v.length + 1) (by omega) v.length 0 0 u (by omega) hu hl hl2 (by omega)
  obtain ⟨o, ho, ho2⟩ := at_nat k3 (j + v.length)
  have hupd := V_upd (a := u1) (p := j + v.length) (by omega) (((o + c) % 4294967296 : Nat) : Int)
  rw [ho, Int.toNat_natCast, Int.toNat_natCast] at hupd
  refine ⟨(o + c) / 4294967296, u1.set (j + v.length) (((o + c) % 4294967296 : Nat) : Int), k3.set (by omega) (by omega), by rw [List.length_set, k4], fun p hp => ?_, ?_, (Ev.ge (v.length + 1)).mono fun N hN => ?_⟩
  · rw [lset_ne (by omega), k5 p (by omega)]
  · have p1 : 4294967296 ^ (j + v.length + 1) = 4294967296 * 4294967296 ^ (j + v.length) := by rw [Nat.pow_succ, Nat.mul_comm]
    have e4 := Nat.div_add_mod (o + c) 4294967296
    rw [p1]
    simp only [List.take_zero, val, Nat.zero_mul, Nat.add_zero] at k6
    generalize (o + c) / 4294967296 = q at *
    generalize (o + c) % 4294967296 = r at *
    generalize 4294967296 ^ (j + v.length) = wl at *
    generalize 4294967296 ^ j = wj at *
    grind
  · unfold natural_restore.f
    have := k7 N (fun y0a_1 y0n_1 y1_1 y4_1 yr230000_1 => if (0 : Int) ≤ (y1_1.length : Int) ∧ (y1_1.length : Int) < ((y0n_1 : Nat) : Int) then (if (0 : Int) ≤ (y1_1.length : Int) ∧ (y1_1.length : Int) < ((y0n_1 : Nat) : Int) then (some ((yr230000_1.set (y0a_1 + (((y1_1.length : Int) : Int).toNat)) (IntKind.wrap .u32 ((yr230000_1.getD (y0a_1 + (((y1_1.length : Int) : Int).toNat)) (0 : Int)) + (IntKind.wrap .u32 (y4_1))))), ())) else none) else none) (N - (v.length + 1))
    rw [show N - (v.length + 1) + v.length + 1 = N by omega] at this
    refine Eq.trans this ?_
    rw [if_pos (by omega), if_pos (by omega), i2n, ho, w32 (n := (c : Int)) (by omega) (by omega), w32m]
    rw [show ((o : Int) + (c : Int)) % 4294967296 = (((o + c) % 4294967296 : Nat) : Int) by omega]
end Go.Proofs.YtkadllkeekoopaaGreat.Abs.T
end

section
namespace Go.Proofs.YtkadllkeekoopaaGreat.Abs.T
open Go.Proofs.YtkadllkeekoopaaGreat.Abs.Ints Go.Proofs.YtkadllkeekoopaaGreat.Abs.BN
set_option maxRecDepth 10000

def tbl8 : List UInt8 := [0, 1, 2, 2, 3, 3, 3, 3, 4, 4, 4, 4, 4, 4, 4, 4, 5, 5, 5, 5, 5, 5, 5, 5, 5, 5, 5, 5, 5, 5, 5, 5, 6, 6, 6, 6, 6, 6, 6, 6, 6, 6, 6, 6, 6, 6, 6, 6, 6, 6, 6, 6, 6, 6, 6, 6, 6, 6, 6, 6, 6, 6, 6, 6, 7, 7, 7, 7, 7, 7, 7, 7, 7, 7, 7, 7, 7, 7, 7, 7, 7, 7, 7, 7, 7, 7, 7, 7, 7, 7, 7, 7, 7, 7, 7, 7, 7, 7, 7, 7, 7, 7, 7, 7, 7, 7, 7, 7, 7, 7, 7, 7, 7, 7, 7, 7, 7, 7, 7, 7, 7, 7, 7, 7, 7, 7, 7, 7, 8, 8, 8, 8, 8, 8, 8, 8, 8, 8, 8, 8, 8, 8, 8, 8, 8, 8, 8, 8, 8, 8, 8, 8, 8, 8, 8, 8, 8, 8, 8, 8, 8, 8, 8, 8, 8, 8, 8, 8, 8, 8, 8, 8, 8, 8, 8, 8, 8, 8, 8, 8, 8, 8, 8, 8, 8, 8, 8, 8, 8, 8, 8, 8, 8, 8, 8, 8, 8, 8, 8, 8, 8, 8, 8, 8, 8, 8, 8, 8, 8, 8, 8, 8, 8, 8, 8, 8, 8, 8, 8, 8, 8, 8, 8, 8, 8, 8, 8, 8, 8, 8, 8, 8, 8, 8, 8, 8, 8, 8, 8, 8, 8, 8, 8, 8, 8, 8, 8, 8, 8, 8, 8, 8, 8, 8, 8, 8]
theorem tbl8_len : tbl8.length = 256 := by decide +kernel
theorem tbl8_at : ∀ y : Fin 256, (tbl8.getD y.val 0).toNat = bl y.val := by decide +kernel
theorem len32_q7 (N : Nat) {x k : Nat} (hx : x < 256) (hk : k ≤ 32) : bits_Len32.q7 N (x : Int) (k : Int) = some (((k + bl x : Nat) : Int), ()) := by
  have hb : bl x ≤ 8 := bl_le (by simpa using hx)
  have e : bits_Len32.q7 N (x : Int) (k : Int) = if (0 : Int) ≤ IntKind.wrap .u8 (x : Int) ∧ IntKind.wrap .u8 (x : Int) < (tbl8.length : Int) then (some (IntKind.wrap .i64 ((k : Int) + (IntKind.wrap .i64 ((((tbl8.getD ((IntKind.wrap .u8 (x : Int) : Int).toNat) 0)).toNat : Int)))), ())) else none := rfl
  have hw : IntKind.wrap .u8 (x : Int) = (x : Int) := by rw [wrap_u8]; omega
  rw [e, hw, tbl8_len, if_pos (by omega), i2n, tbl8_at ⟨x, hx⟩, wi (n := ((bl x : Nat) : Int)) (by omega) (by omega), wi (by omega) (by omega)]
  rfl
theorem len32_q4 (N : Nat) {x k : Nat} (hx : x < 65536) (hk : k ≤ 16) : bits_Len32.q4 N (x : Int) (k : Int) = some (((k + bl x : Nat) : Int), ()) := by
  unfold bits_Len32.q4
  by_cases h : 256 ≤ x
  · have e := bl_shift (n := x) (k := 8) (by omega)
    have hd : (x : Int) / 256 = ((x / 256 : Nat) : Int) := by omega
    rw [if_pos (decide_eq_true (by omega)), hd, wi (by omega) (by omega), show (k : Int) + 8 = ((k + 8 : Nat) : Int) by omega, len32_q7 N (by omega) (by omega), e, show (2 : Nat) ^ 8 = 256 from rfl]
    congr 3
    omega
  · rw [if_neg (by rw [decide_eq_true_eq]; omega), len32_q7 N (by omega) (by omega)]
theorem len32_ok (N : Nat) {x : Nat} (hx : x < 4294967296) : bits_Len32.f N (x : Int) = some (((bl x : Nat) : Int), ()) := by
  unfold bits_Len32.f
  by_cases h : 65536 ≤ x
  · have e := bl_shift (n := x) (k := 16) (by omega)
    have hd : (x : Int) / 65536 = ((x / 65536 : Nat) : Int) := by omega
    rw [if_pos (decide_eq_true (by omega)), hd, show (16 : Int) = ((16 : Nat) : Int) from rfl, len32_q4 N (by omega) (by omega), e, show (2 : Nat) ^ 16 = 65536 from rfl]
    congr 3
    omega
  · rw [if_neg (by rw [decide_eq_true_eq]; omega), show (0 : Int) = ((0 : Nat) : Int) from rfl, len32_q4 N (by omega) (by omega), Nat.zero_add]
theorem lz32_ok (N : Nat) {x : Nat} (hx : x < 4294967296) : bits_LeadingZeros32.f N (x : Int) = some (((32 - bl x : Nat) : Int), ()) := by
  have hb : bl x ≤ 32 := bl_le (by simpa using hx)
  unfold bits_LeadingZeros32.f
  rw [len32_ok N hx]
  simp only [Option.bind_some]
  rw [wi (by omega) (by omega)]
  congr 2
  omega
theorem bits_ok {a : List Int} (h : L a) : Ev fun N => natural_Bits.f N a = some (((bl (val a) : Nat) : Int), ()) := by
  have hla : (lim (val a)).length ≤ a.length := lim_len_le (V_lt h.u)
  have hl := h.len
  refine (view_ok h).mono fun N h1 => ?_
  unfold natural_Bits.f
  rw [h1]
  simp only [Option.bind_some]
  by_cases h0 : (lim (val a)).length = 0
  · rw [if_pos (decide_eq_true (by omega)), lim_len_zero.1 h0, bl_zero]
    rfl
  · have hp : 0 < val a := by
      rcases Nat.eq_zero_or_pos (val a) with h | h
      · exact absurd (lim_len_zero.2 h) h0
      · exact h
    obtain ⟨e, _⟩ := bl_lim hp
    obtain ⟨x, hx, hx2⟩ := at_nat (U_lim (val a)) ((lim (val a)).length - 1)
    have hb : bl x ≤ 32 := bl_le (by simpa using hx2)
    have w1 : IntKind.wrap .i64 (((lim (val a)).length : Int) - 1) = (((lim (val a)).length - 1 : Nat) : Int) := by rw [wi (by omega) (by omega)]; omega
    rw [if_neg (by rw [decide_eq_true_eq]; omega), w1, if_pos (by omega), i2n, hx, len32_ok N hx2]
    simp only [Option.bind_some]
    rw [hx, Int.toNat_natCast] at e
    rw [wi (n := 32 * (((lim (val a)).length - 1 : Nat) : Int)) (by omega) (by omega), wi (by omega) (by omega), e]
    congr 2
end Go.Proofs.YtkadllkeekoopaaGreat.Abs.T
end

section
namespace Go.Proofs.YtkadllkeekoopaaGreat.Abs.T
open Go.Proofs.YtkadllkeekoopaaGreat.Abs.Ints Go.Proofs.YtkadllkeekoopaaGreat.Abs.BN
set_option maxRecDepth 10000

/-- One digit of a long division. -/
theorem digit_step {v : List Int} (hv : U v) {n : Nat} (hn : 2 ≤ n) (hvl : v.length = n) (ht : 2147483648 ≤ v.getD (n - 1) 0) {u : List Int} (hu : U u) {j : Nat} (hul : j + n + 1 ≤ u.length) (hlen : u.length < 4611686018427387904) (hlt : val (u.drop (j + 1)) < val v) :
    ∃ (g : Nat) (neg : Bool) (u1 u2 : List Int), g < 4294967296 ∧ U u2 ∧ u2.length = u.length ∧ u1.length = u.length ∧ val (u2.drop j) < val v ∧ (neg = true → 1 ≤ g) ∧
      val u2 + (if neg then g - 1 else g) * val v * 4294967296 ^ j = val u ∧ (neg = false → u2 = u1) ∧
      Ev fun N => natural_estimate.f N ((u.drop j).take (n + 1)) v = some ((g : Int), ()) ∧ natural_subtract.f N j (n + 1) v (g : Int) u = some (neg, u1, ()) ∧ (neg = true → natural_restore.f N j (n + 1) v u1 = some (u2, ())) := by
  have hvv : val v < 4294967296 ^ n := by rw [← hvl]; exact V_lt hv
  have pn : 4294967296 ^ (n + 1) = 4294967296 * 4294967296 ^ n := by rw [Nat.pow_succ, Nat.mul_comm]
  have pj : 4294967296 ^ (j + n + 1) = 4294967296 ^ j * 4294967296 ^ (n + 1) := by rw [Nat.add_assoc, Nat.pow_add]
  have hpj := pow_pos' j
  -- the window
  have hW : val (u.drop j) < 4294967296 * val v := by
    have := V_drop u j (by omega)
    have hat := hu.at j
    omega
  have hWn : val (u.drop j) < 4294967296 ^ (n + 1) := by omega
  have hw := V_drop_lt hWn
  have hsu := V_split u j (by omega)
  have hz : val (u.drop (j + n + 1)) = 0 := by
    have := drop_zero_val hWn
    rwa [List.drop_drop, ← Nat.add_assoc] at this
  obtain ⟨g, g1, g2, g3, gE⟩ := est_ok (w := (u.drop j).take (n + 1)) (v := v) ((hu.drop j).take _) hv hn (by rw [List.length_take, List.length_drop]; omega) hvl (by omega) ht (by rw [hw]; exact hW)
  rw [hw] at g1 g2
  obtain ⟨neg, u1, s1, s2, s3, s4, sE⟩ := subtract_ok hv g3 (j := j) hu (by omega) hlen
  rw [hvl] at s3 s4 sE
  have t1 := val_take_congr (a := u1) (b := u) (k := j) fun p hp => s3 p (.inl hp)
  have d1 := val_drop_congr (a := u1) (b := u) (k := j + n + 1) s2 fun p hp => s3 p (.inr (by omega))
  have hs1 := V_split u1 j (by omega)
  have vpos : 0 < val v := by
    rcases Nat.eq_zero_or_pos (val v) with h | h
    · rw [h] at hlt; omega
    · exact h
  -- what lies behind the window stays zero
  have small : ∀ z : List Int, U z → z.length = u.length → val (z.drop (j + n + 1)) = 0 → val (z.drop j) < 4294967296 ^ (n + 1) := fun z hz hl h0 => by
    have := V_split (z.drop j) (n + 1) (by rw [List.length_drop]; omega)
    rw [List.drop_drop, ← Nat.add_assoc, h0, Nat.mul_zero, Nat.add_zero] at this
    rw [this]
    exact V_take_lt (hz.drop j) _
  have W1 := small u1 s1 s2 (by rw [d1, hz])
  have eq1 : val (u1.drop j) + g * val v = val (u.drop j) + (if neg then 1 else 0) * 4294967296 ^ (n + 1) := by
    rw [hs1, hsu, t1, pj] at s4
    have : 4294967296 ^ j * (val (u1.drop j) + g * val v) = 4294967296 ^ j * (val (u.drop j) + (if neg then 1 else 0) * 4294967296 ^ (n + 1)) := by
      generalize (if neg then 1 else 0) = q at *
      generalize 4294967296 ^ j = w at *
      generalize 4294967296 ^ (n + 1) = w' at *
      grind
    exact Nat.eq_of_mul_eq_mul_left hpj this
  have hdm := Nat.div_add_mod (val (u.drop j)) (val v)
  have hml := Nat.mod_lt (val (u.drop j)) vpos
  cases neg with
  | false =>
    simp only [Bool.false_eq_true, if_false, Nat.zero_mul, Nat.add_zero] at eq1 s4
    have hgq : g = val (u.drop j) / val v := by
      have : g ≤ val (u.drop j) / val v := (Nat.le_div_iff_mul_le vpos).2 (by omega)
      omega
    refine ⟨g, false, u1, u1, g3, s1, s2, s2, ?_, fun h => (by cases h), ?_, fun _ => rfl, (gE.and sE).mono fun N ⟨a, b⟩ => ⟨a, b, fun h => (by cases h)⟩⟩
    · rw [← hgq, Nat.mul_comm] at hdm
      omega
    · simp only [Bool.false_eq_true, if_false]
      exact s4
  | true =>
    simp only [if_true, Nat.one_mul] at eq1 s4
    have hgq : g = val (u.drop j) / val v + 1 := by
      have : ¬ g ≤ val (u.drop j) / val v := fun h => by
        have := (Nat.le_div_iff_mul_le vpos).1 h
        omega
      omega
    obtain ⟨c, u2, r1, r2, r3, r4, rE⟩ := restore_ok hv (j := j) s1 (by omega) (by omega)
    rw [hvl] at r3 r4 rE
    have t2 := val_take_congr (a := u2) (b := u1) (k := j) fun p hp => r3 p (.inl hp)
    have d2 := val_drop_congr (a := u2) (b := u1) (k := j + n + 1) r2 fun p hp => r3 p (.inr (by omega))
    have hs2 := V_split u2 j (by omega)
    have W2 := small u2 r1 (by omega) (by rw [d2, d1, hz])
    have eq2 : val (u2.drop j) + c * 4294967296 ^ (n + 1) = val (u1.drop j) + val v := by
      rw [hs2, hs1, t2, pj] at r4
      have : 4294967296 ^ j * (val (u2.drop j) + c * 4294967296 ^ (n + 1)) = 4294967296 ^ j * (val (u1.drop j) + val v) := by
        generalize 4294967296 ^ j = w at *
        generalize 4294967296 ^ (n + 1) = w' at *
        grind
      exact Nat.eq_of_mul_eq_mul_left hpj this
    have hgv : g * val v = val v * (val (u.drop j) / val v) + val v := by rw [hgq, Nat.add_mul, Nat.mul_comm, Nat.one_mul]
    have hc : c = 1 := by
      rcases Nat.lt_trichotomy c 1 with h | h | h
      · have : c = 0 := by omega
        subst this
        omega
      · exact h
      · have : 2 * 4294967296 ^ (n + 1) ≤ c * 4294967296 ^ (n + 1) := Nat.mul_le_mul_right _ h
        omega
    subst hc
    have hl2 : val (u2.drop j) < val v := by
      clear hs2 hs1 hsu t2 t1 r4 s4 pj small W2 W1 hW hWn hw g1 g2
      generalize g * val v = gv at *
      generalize val v * (val (u.drop j) / val v) = vq at *
      generalize 4294967296 ^ (n + 1) = X at *
      omega
    have hg1 : 1 ≤ g := by rw [hgq]; exact Nat.le_add_left 1 _
    refine ⟨g, true, u1, u2, g3, r1, r2.trans s2, s2, hl2, fun _ => hg1, ?_, fun h => (by cases h), ((gE.and sE).and rE).mono fun N ⟨⟨a, b⟩, c⟩ => ⟨a, b, fun _ => c⟩⟩
    simp only [if_true]
    have e : g * val v * 4294967296 ^ j = (g - 1) * val v * 4294967296 ^ j + val v * 4294967296 ^ j := by
      obtain ⟨g', rfl⟩ : ∃ g', g = g' + 1 := ⟨g - 1, by omega⟩
      rw [Nat.add_sub_cancel, Nat.add_mul, Nat.add_mul, Nat.one_mul]
    rw [e] at s4
    rw [pj, Nat.one_mul] at r4
    generalize (g - 1) * val v * 4294967296 ^ j = x1 at *
    generalize val v * 4294967296 ^ j = x2 at *
    rw [pj] at s4
    generalize 4294967296 ^ j * 4294967296 ^ (n + 1) = x3 at *
    omega

theorem long_loop {v : List Int} (hv : U v) {n : Nat} (hn : 2 ≤ n) (hvl : v.length = n) (ht : 2147483648 ≤ v.getD (n - 1) 0) {dg A : Nat} (s : Int) (hlen : n + dg < 4611686018427387904) : ∀ (t : Nat) (q u : List Int), t ≤ dg → U q → q.length = dg → U u → u.length = n + dg → val (u.drop t) < val v → val u + val (q.drop t) * 4294967296 ^ t * val v = A →
    ∃ (q' u' : List Int), U q' ∧ q'.length = dg ∧ U u' ∧ u'.length = n + dg ∧ val u' < val v ∧ val u' + val q' * val v = A ∧
      ∀ K : Nat → Int → Int → List Int → List Int → Option (List Int × List Int × Unit), Ev fun N => ∀ m, t < m → natural_long.l8 N (K N) m (n : Int) s v (dg : Int) (dg : Int) ((dg - t : Nat) : Int) q u = K N (n : Int) s q' u'
  | 0, q, u, ht', hq, hql, hu, hul, hlt, he => by
    simp only [List.drop_zero, Nat.pow_zero, Nat.mul_one] at hlt he
    refine ⟨q, u, hq, hql, hu, hul, hlt, he, fun K => Ev.of fun N m hm => ?_⟩
    obtain ⟨m, rfl⟩ : ∃ k, m = k + 1 := ⟨m - 1, by omega⟩
    show natural_long.p8 N (K N) (natural_long.l8 N (K N) m) (n : Int) s v (dg : Int) (dg : Int) ((dg - 0 : Nat) : Int) q u = _
    unfold natural_long.p8
    rw [if_neg (by simp)]
  | j + 1, q, u, ht', hq, hql, hu, hul, hlt, he => by
    obtain ⟨g, neg, u1, u2, g1, g2, g3, g4, g5, g6, g7, g8, gE⟩ := digit_step hv hn hvl ht hu (j := j) (by omega) (by omega) hlt
    have hqd : ∃ qd : Nat, (if neg then g - 1 else g) = qd ∧ qd < 4294967296 := ⟨_, rfl, by split <;> omega⟩
    obtain ⟨qd, hqd, hqd2⟩ := hqd
    rw [hqd] at g7
    obtain ⟨q', u', k1, k2, k3, k4, k5, k6, k7⟩ := long_loop hv hn hvl ht (A := A) s hlen j (q.set j (qd : Int)) u2 (by omega) (hq.set (by omega) (by omega)) (by rw [List.length_set, hql]) g2 (by omega) g5 (by
      rw [V_set_drop (by omega), Int.toNat_natCast]
      rw [← g7] at he
      have p1 : 4294967296 ^ (j + 1) = 4294967296 * 4294967296 ^ j := by rw [Nat.pow_succ, Nat.mul_comm]
      rw [p1] at he
      generalize 4294967296 ^ j = w at *
      grind)
    refine ⟨q', u', k1, k2, k3, k4, k5, k6, fun K => ?_⟩
    refine ((k7 K).and gE).mono fun N ⟨h1, h2, h3, h4⟩ m hm => ?_
    obtain ⟨m, rfl⟩ : ∃ k, m = k + 1 := ⟨m - 1, by omega⟩
    show natural_long.p8 N (K N) (natural_long.l8 N (K N) m) (n : Int) s v (dg : Int) (dg : Int) ((dg - (j + 1) : Nat) : Int) q u = _
    unfold natural_long.p8
    have e1 : IntKind.wrap .i64 (IntKind.wrap .i64 ((dg : Int) - 1) - ((dg - (j + 1) : Nat) : Int)) = (j : Int) := by rw [wi (n := (dg : Int) - 1) (by omega) (by omega), wi (by omega) (by omega)]; omega
    have e2 : IntKind.wrap .i64 (IntKind.wrap .i64 ((j : Int) + (n : Int)) + 1) = ((j + n + 1 : Nat) : Int) := by rw [wi (n := (j : Int) + (n : Int)) (by omega) (by omega), wi (by omega) (by omega)]; omega
    have e3 : (((j + n + 1 : Nat) : Int) - (j : Int)).toNat = n + 1 := by omega
    have e4 : IntKind.wrap .i64 (((dg - (j + 1) : Nat) : Int) + 1) = ((dg - j : Nat) : Int) := by rw [wi (by omega) (by omega)]; omega
    rw [if_pos (decide_eq_true (by omega)), e1, e2, e3, if_pos (by omega), i2n, h2]
    simp only [Option.bind_some]
    rw [if_pos (by omega), h3]
    simp only [Option.bind_some]
    cases neg with
    | false =>
      have hu12 := g8 rfl
      subst hu12
      simp only [Bool.false_eq_true, if_false] at hqd ⊢
      subst hqd
      unfold natural_long.q15 natural_long.q16
      rw [if_pos (by omega), i2n, w32 (by omega) (by omega)]
      dsimp only
      rw [e4]
      exact h1 m (by omega)
    | true =>
      have hr := h4 rfl
      simp only [if_true] at hqd ⊢
      rw [if_pos (by omega), hr]
      simp only [Option.bind_some]
      unfold natural_long.q15 natural_long.q16
      have g6' := g6 rfl
      rw [if_pos (by omega), i2n, w64 (by omega) (by omega), show (g : Int) - 1 = (qd : Int) by omega, w32 (by omega) (by omega)]
      dsimp only
      rw [e4]
      exact h1 m (by omega)
end Go.Proofs.YtkadllkeekoopaaGreat.Abs.T
end

section
namespace Go.Proofs.YtkadllkeekoopaaGreat.Abs.T
open Go.Proofs.YtkadllkeekoopaaGreat.Abs.Ints Go.Proofs.YtkadllkeekoopaaGreat.Abs.BN
set_option maxRecDepth 10000

theorem long_ok {x y : Nat} (hx : Sm x) (hy : 4294967296 ≤ y) (hxy : y ≤ x) : Ev fun N => natural_long.f N (lim x) (lim y) = some (lim (x / y), lim (x % y), ()) := by
  have hlx : (lim x).length ≤ 1099511627776 := hx
  have hlyx := lim_len_mono hxy
  obtain ⟨n, hn⟩ : ∃ n, (lim y).length = n := ⟨_, rfl⟩
  obtain ⟨la, hla⟩ : ∃ la, (lim x).length = la := ⟨_, rfl⟩
  rw [hn, hla] at hlyx
  rw [hla] at hlx
  have hn2 : 2 ≤ n := by
    have h1 := lim_lt_pow y
    rw [hn] at h1
    rcases Nat.lt_or_ge n 2 with h | h
    · have : 4294967296 ^ n ≤ 4294967296 ^ 1 := le_pow (by omega)
      rw [Nat.pow_one] at this
      omega
    · exact h
  obtain ⟨top, ht, ht2⟩ := at_nat (U_lim y) (n - 1)
  have htne : top ≠ 0 := by
    have := lim_last (n := y) (by omega)
    rw [hn, ht] at this
    omega
  have hbl := bl_le (n := top) (k := 32) (by simpa using ht2)
  have hblp := bl_pos (n := top) (by omega)
  obtain ⟨s, hs⟩ : ∃ s, 32 - bl top = s := ⟨_, rfl⟩
  have hs31 : s ≤ 31 := by omega
  have hS : 0 < 2 ^ s := Nat.pow_pos (by omega)
  -- the divisor, shifted
  obtain ⟨b1, v1, v2, v3, v4, vE⟩ := left_ok (U_lim y) hs31 (by omega)
  rw [hn] at v2 v4
  rw [V_lim] at v3
  obtain ⟨a1, u1, u2, u3, u4, uE⟩ := left_ok (U_lim x) hs31 (by omega)
  rw [hla] at u2 u4
  rw [V_lim] at u3
  have hyl := lim_lt_pow y
  rw [hn] at hyl
  have syv := V_succ (lim y) (n - 1)
  rw [show n - 1 + 1 = n by omega, V_all (by omega), V_lim, ht, Int.toNat_natCast] at syv
  have tyl := V_take_lt (U_lim y) (n - 1)
  have pn : 4294967296 ^ n = 4294967296 * 4294967296 ^ (n - 1) := by rw [show n = n - 1 + 1 by omega, Nat.pow_succ, Nat.mul_comm, Nat.add_sub_cancel]
  have htop1 : 2147483648 ≤ top * 2 ^ s := by
    have h1 := bl_ge (n := top) (by omega)
    have : 2 ^ (bl top - 1) * 2 ^ s ≤ top * 2 ^ s := Nat.mul_le_mul_right _ h1
    rw [← Nat.pow_add, show bl top - 1 + s = 31 by omega] at this
    exact this
  have htop2 : (top + 1) * 2 ^ s ≤ 4294967296 := by
    have h1 := bl_lt top
    have : (top + 1) * 2 ^ s ≤ 2 ^ bl top * 2 ^ s := Nat.mul_le_mul_right _ h1
    rw [← Nat.pow_add, show bl top + s = 32 by omega] at this
    exact this
  have hpn1 := pow_pos' (n - 1)
  have hvv1 : y * 2 ^ s < 4294967296 ^ n := by
    have h1 : y < (top + 1) * 4294967296 ^ (n - 1) := by rw [Nat.add_mul, Nat.one_mul]; omega
    have h2 : y * 2 ^ s < (top + 1) * 4294967296 ^ (n - 1) * 2 ^ s := Nat.mul_lt_mul_of_pos_right h1 hS
    have h3 : (top + 1) * 2 ^ s * 4294967296 ^ (n - 1) ≤ 4294967296 * 4294967296 ^ (n - 1) := Nat.mul_le_mul_right _ htop2
    have h4 : (top + 1) * 4294967296 ^ (n - 1) * 2 ^ s = (top + 1) * 2 ^ s * 4294967296 ^ (n - 1) := by rw [Nat.mul_assoc, Nat.mul_assoc, Nat.mul_comm (4294967296 ^ (n - 1))]
    omega
  have hvl : (b1.take n).length = n := by rw [List.length_take]; omega
  have hvv : val (b1.take n) = y * 2 ^ s := by rw [V_drop_lt (by rw [v3]; exact hvv1), v3]
  have hvu : U (b1.take n) := v1.take n
  have hvtop : 2147483648 ≤ (b1.take n).getD (n - 1) 0 := by
    have h1 := V_succ (b1.take n) (n - 1)
    rw [show n - 1 + 1 = n by omega, V_all (by omega), hvv] at h1
    have h2 := V_take_lt hvu (n - 1)
    have h3 := hvu.at (n - 1)
    rcases Int.lt_or_le ((b1.take n).getD (n - 1) 0) 2147483648 with h | h
    · exfalso
      have h4 : ((b1.take n).getD (n - 1) 0).toNat * 4294967296 ^ (n - 1) + 4294967296 ^ (n - 1) ≤ 2147483648 * 4294967296 ^ (n - 1) := by
        rw [← Nat.succ_mul]
        exact Nat.mul_le_mul_right _ (by omega)
      have h5 : 2147483648 * 4294967296 ^ (n - 1) ≤ top * 2 ^ s * 4294967296 ^ (n - 1) := Nat.mul_le_mul_right _ htop1
      have h6 : top * 2 ^ s * 4294967296 ^ (n - 1) ≤ y * 2 ^ s := by
        rw [Nat.mul_right_comm]
        exact Nat.mul_le_mul_right _ (by omega)
      omega
    · exact h
  -- the first window
  obtain ⟨dg, hdg⟩ : ∃ dg, la - n + 1 = dg := ⟨_, rfl⟩
  have hfirst : val (a1.drop dg) < val (b1.take n) := by
    rw [hvv]
    have hdl : (a1.drop dg).length = n := by rw [List.length_drop]; omega
    have h1 := V_succ (a1.drop dg) (n - 1)
    rw [show n - 1 + 1 = n by omega, V_all (by omega)] at h1
    have h2 := V_take_lt (u1.drop dg) (n - 1)
    have h3 : (a1.drop dg).getD (n - 1) 0 = a1.getD la 0 := by
      rw [List.getD_eq_getElem?_getD, List.getElem?_drop, ← List.getD_eq_getElem?_getD, show dg + (n - 1) = la by omega]
    rw [h3] at h1
    have h4 : ((a1.getD la 0).toNat + 1) * 4294967296 ^ (n - 1) ≤ top * 2 ^ s * 4294967296 ^ (n - 1) := by
      refine Nat.mul_le_mul_right _ ?_
      have := (shift_pair hs31).2
      omega
    have h6 : top * 2 ^ s * 4294967296 ^ (n - 1) ≤ y * 2 ^ s := by
      rw [Nat.mul_right_comm]
      exact Nat.mul_le_mul_right _ (by omega)
    rw [Nat.add_mul, Nat.one_mul] at h4
    omega
  obtain ⟨q, u, k1, k2, k3, k4, k5, k6, k7⟩ := long_loop hvu hn2 hvl hvtop (dg := dg) (A := x * 2 ^ s) (s : Int) (by omega) dg (List.replicate dg 0) a1 (Nat.le_refl _) (U.rep _) (by simp) u1 (by omega) hfirst (by rw [u3, List.drop_of_length_le (by simp)]; simp [val])
  rw [hvv] at k5 k6
  have hys : 0 < y * 2 ^ s := Nat.mul_pos (by omega) hS
  have hq : val q = x / y := by
    have : x * 2 ^ s / (y * 2 ^ s) = val q := by rw [← k6, Nat.add_mul_div_right _ _ hys, Nat.div_eq_of_lt k5, Nat.zero_add]
    rw [← this, Nat.mul_div_mul_right _ _ hS]
  have hr : val u = x % y * 2 ^ s := by
    have : x * 2 ^ s % (y * 2 ^ s) = val u := by rw [← k6, Nat.add_mul_mod_self_right, Nat.mod_eq_of_lt k5]
    rw [← this, Nat.mul_mod_mul_right]
  have hut : val (u.take n) = val u := V_drop_lt (by omega)
  have hlu : (lim (val u)).length ≤ n := lim_len_le (by omega)
  have rE := right_ok (U_lim (val u)) hs31 (by omega)
  rw [V_lim, hr, Nat.mul_div_cancel _ hS] at rE
  have kE := k7 (fun N y6_32 y7_32 yr4_32 yr9_32 => (natural_view.f N yr4_32).bind fun t34 => (if (0 : Int) ≤ y6_32 ∧ y6_32 ≤ (yr9_32.length : Int) then ((natural_view.f N (yr9_32.take ((y6_32 : Int).toNat))).bind fun t35 => ((natural_right.f N t35.1 y7_32).bind fun t36 => (some (t34.1, t36.1, ())))) else none))
  refine (((vE.and uE).and ((view_ok (a := q) ⟨k1, by omega⟩).and (view_ok (a := u.take n) ⟨k3.take n, by rw [List.length_take]; omega⟩))).and ((rE.and kE).and (Ev.ge (dg + 1)))).mono fun N ⟨⟨⟨e1, e2⟩, e3, e4⟩, ⟨e5, e6⟩, e7⟩ => ?_
  rw [hut, hr] at e4
  unfold natural_long.f
  rw [hn, hla]
  have w1 : IntKind.wrap .i64 ((n : Int) - 1) = ((n - 1 : Nat) : Int) := by rw [wi (by omega) (by omega)]; omega
  have w2 : IntKind.wrap .i64 (IntKind.wrap .i64 ((la : Int) - (n : Int)) + 1) = (dg : Int) := by rw [wi (n := (la : Int) - (n : Int)) (by omega) (by omega), wi (by omega) (by omega)]; omega
  rw [w1, if_pos (by omega), i2n, ht, lz32_ok N ht2]
  simp only [Option.bind_some]
  rw [hs, w64 (by omega) (by omega), e1]
  simp only [Option.bind_some]
  rw [if_pos (by omega), e2]
  simp only [Option.bind_some]
  rw [w2, if_pos (by omega), i2n, i2n, List.drop_zero]
  have h8 := e6 N (by omega)
  rw [Nat.sub_self] at h8
  refine Eq.trans h8 ?_
  rw [e3]
  simp only [Option.bind_some]
  rw [if_pos (by omega), i2n, e4]
  simp only [Option.bind_some]
  rw [e5, hq]
  rfl
theorem divmod_ok {a b : List Int} (ha : L a) (hb : L b) (sa : Sm (val a)) (sb : Sm (val b)) : Ev fun N => natural_DivMod.f N a b = if val b = 0 then some ([], [], false, ()) else some (lim (val a / val b), lim (val a % val b), true, ()) := by
  have sa' : (lim (val a)).length ≤ 1099511627776 := sa
  have sb' : (lim (val b)).length ≤ 1099511627776 := sb
  by_cases h0 : val b = 0
  · refine ((view_ok ha).and (view_ok hb)).mono fun N ⟨h1, h2⟩ => ?_
    unfold natural_DivMod.f
    rw [h1, h2, if_pos h0]
    simp only [Option.bind_some]
    rw [if_pos (decide_eq_true (by rw [h0, lim_zero]; rfl))]
  · have hne : ¬ (lim (val b)).length = 0 := fun h => h0 (lim_len_zero.1 h)
    have cE := compare_ok sa.lim sb.lim
    rw [V_lim, V_lim] at cE
    by_cases hlt : val a < val b
    · refine (((view_ok ha).and (view_ok hb)).and (cE.and (trim_lim sa))).mono fun N ⟨⟨h1, h2⟩, h3, h4⟩ => ?_
      unfold natural_DivMod.f
      rw [h1, h2, if_neg h0]
      simp only [Option.bind_some]
      rw [if_neg (by rw [decide_eq_true_eq]; omega), h3]
      simp only [Option.bind_some]
      rw [if_pos (by unfold cmpN; rw [if_pos hlt]; rfl), h4, Nat.div_eq_of_lt hlt, Nat.mod_eq_of_lt hlt, lim_zero]
      rfl
    · have hcn : ¬ decide (cmpN (val a) (val b) < 0) = true := by unfold cmpN; rw [if_neg hlt]; split <;> simp
      by_cases h1l : (lim (val b)).length = 1
      · have hb1 : val b < 4294967296 := by
          have := lim_lt_pow (val b)
          rw [h1l, Nat.pow_one] at this
          exact this
        have hd : (lim (val b)).getD 0 0 = ((val b : Nat) : Int) := by
          rw [lim_pos (by omega)]
          simp only [List.getD_cons_zero]
          rw [Nat.mod_eq_of_lt hb1]
        have sE := short_ok (U_lim (val a)) (d := ((val b : Nat) : Int)) (by omega) (by omega) (by omega)
        rw [V_lim, Int.toNat_natCast] at sE
        have hmb : val a % val b < val b := Nat.mod_lt _ (by omega)
        have fE := fromU_ok (v := ((val a % val b : Nat) : Int)) (by omega) (by omega)
        rw [Int.toNat_natCast] at fE
        refine (((view_ok ha).and (view_ok hb)).and (cE.and (sE.and fE))).mono fun N ⟨⟨h1, h2⟩, h3, h4, h5⟩ => ?_
        unfold natural_DivMod.f
        rw [h1, h2, if_neg h0]
        simp only [Option.bind_some]
        rw [if_neg (by rw [decide_eq_true_eq]; omega), h3]
        simp only [Option.bind_some]
        rw [if_neg hcn, if_pos (decide_eq_true (by omega)), if_pos (by omega), show (0 : Int).toNat = 0 from rfl, hd, h4]
        simp only [Option.bind_some]
        rw [w64 (by omega) (by omega), h5]
        rfl
      · have hb2 : 4294967296 ≤ val b := by
          have h1 := lim_len_ge (n := val b) (by omega)
          have : 4294967296 ^ 1 ≤ 4294967296 ^ ((lim (val b)).length - 1) := le_pow (by omega)
          rw [Nat.pow_one] at this
          omega
        refine (((view_ok ha).and (view_ok hb)).and (cE.and (long_ok sa hb2 (by omega)))).mono fun N ⟨⟨h1, h2⟩, h3, h4⟩ => ?_
        unfold natural_DivMod.f
        rw [h1, h2, if_neg h0]
        simp only [Option.bind_some]
        rw [if_neg (by rw [decide_eq_true_eq]; omega), h3]
        simp only [Option.bind_some]
        rw [if_neg hcn, if_neg (by rw [decide_eq_true_eq]; omega), h4]
        rfl
end Go.Proofs.YtkadllkeekoopaaGreat.Abs.T
end

section
namespace Go.Proofs.YtkadllkeekoopaaGreat.Abs.T
open Go.Proofs.YtkadllkeekoopaaGreat.Abs.Ints Go.Proofs.YtkadllkeekoopaaGreat.Abs.BN
set_option maxRecDepth 10000

theorem uint_loop {a : List Int} (ha : U a) (hl : a.length ≤ 2) : ∀ (i : Nat) (N m : Nat) (K : Int → Option (Int × Bool × Unit)), i ≤ a.length →
    natural_Uint64.l6 N K (m + i + 1) a ((val (a.drop i) : Nat) : Int) ((i : Int) - 1) = K ((val a : Nat) : Int)
  | 0, N, m, K, hi => by
    show natural_Uint64.p6 N K (natural_Uint64.l6 N K (m + 0)) a _ (((0 : Nat) : Int) - 1) = _
    unfold natural_Uint64.p6
    rw [if_neg (by simp), List.drop_zero]
  | i + 1, N, m, K, hi => by
    show natural_Uint64.p6 N K (natural_Uint64.l6 N K (m + (i + 1))) a _ (((i + 1 : Nat) : Int) - 1) = _
    have e1 : ((i + 1 : Nat) : Int) - 1 = (i : Int) := by omega
    obtain ⟨x, hx, hx2⟩ := at_nat ha i
    have hd := V_drop a i (by omega)
    rw [hx, Int.toNat_natCast] at hd
    have hs : val (a.drop (i + 1)) < 4294967296 := by
      have h1 := V_lt (ha.drop (i + 1))
      have h2 : 4294967296 ^ (a.drop (i + 1)).length ≤ 4294967296 ^ 1 := le_pow (by rw [List.length_drop]; omega)
      rw [Nat.pow_one] at h2
      omega
    unfold natural_Uint64.p6
    rw [e1, if_pos (decide_eq_true (by omega)), if_pos (by omega), i2n, hx, p32]
    generalize val (a.drop (i + 1)) = y at *
    rw [w64 (n := (y : Int) * 4294967296) (by omega) (by omega), w64 (n := (x : Int)) (by omega) (by omega), or64 (by omega) (by omega) (by omega) (by omega) (by omega), wi (by omega) (by omega)]
    have := uint_loop ha hl i N m K (by omega)
    rw [hd] at this
    rw [show (y : Int) * 4294967296 + (x : Int) = ((x + 4294967296 * y : Nat) : Int) by omega]
    exact this
theorem lim_len2 {n : Nat} : (lim n).length ≤ 2 ↔ n < 18446744073709551616 := by
  constructor
  · intro h
    have h1 := lim_lt_pow n
    have : 4294967296 ^ (lim n).length ≤ 4294967296 ^ 2 := le_pow h
    omega
  · intro h
    exact lim_len_le (by simpa using h)
theorem uint64_ok {a : List Int} (h : L a) : Ev fun N => natural_Uint64.f N a = if val a < 18446744073709551616 then some (((val a : Nat) : Int), true, ()) else some (0, false, ()) := by
  refine ((view_ok h).and (Ev.ge 3)).mono fun N ⟨h1, h2⟩ => ?_
  unfold natural_Uint64.f
  rw [h1]
  simp only [Option.bind_some]
  by_cases hs : val a < 18446744073709551616
  · have hl := lim_len2.2 hs
    rw [if_neg (by rw [decide_eq_true_eq]; omega), if_pos hs, wi (by omega) (by omega)]
    have := uint_loop (U_lim (val a)) hl (lim (val a)).length N (N - ((lim (val a)).length + 1)) (fun y4_2 => some (y4_2, true, ())) (Nat.le_refl _)
    rw [List.drop_length, show N - ((lim (val a)).length + 1) + (lim (val a)).length + 1 = N by omega, V_lim] at this
    exact this
  · have hl : ¬ (lim (val a)).length ≤ 2 := fun h => hs (lim_len2.1 h)
    rw [if_pos (decide_eq_true (by omega)), if_neg hs]
theorem uint64_lim {n : Nat} (h : n < 18446744073709551616) : Ev fun N => natural_Uint64.f N (lim n) = some ((n : Int), true, ()) := by
  have hl := lim_len2.2 h
  have := uint64_ok (a := lim n) ⟨U_lim n, by omega⟩
  rw [V_lim] at this
  exact this.mono fun N e => by rw [e, if_pos h]

theorem gcd_small : ∀ (y x : Nat), x < 18446744073709551616 → y < 18446744073709551616 → ∀ N K m, y < m → natural_GCD.l9 N K m (x : Int) (y : Int) = K ((Nat.gcd x y : Nat) : Int) := by
  intro y
  induction y using Nat.strongRecOn with
  | ind y ih =>
    intro x hx hy N K m hm
    obtain ⟨m, rfl⟩ : ∃ k, m = k + 1 := ⟨m - 1, by omega⟩
    show natural_GCD.p9 N K (natural_GCD.l9 N K m) (x : Int) (y : Int) = _
    unfold natural_GCD.p9
    by_cases h0 : y = 0
    · subst h0
      rw [if_neg (by simp), Nat.gcd_zero_right]
    · have hlt : x % y < y := Nat.mod_lt _ (by omega)
      rw [if_pos (decide_eq_true (by omega)), if_neg (by omega), Int.tmod_eq_emod_of_nonneg (by omega), show (x : Int) % (y : Int) = ((x % y : Nat) : Int) from rfl, ih (x % y) hlt y hy (by omega) N K m (by omega), Nat.gcd_comm y, ← Nat.gcd_rec, Nat.gcd_comm]
theorem gcd_big : ∀ (y x : Nat), Sm x → Sm y → ∃ (x' y' : Nat), Nat.gcd x' y' = Nat.gcd x y ∧ (lim y').length ≤ 2 ∧ ((lim x').length ≤ 2 ∨ y' = 0) ∧ Sm x' ∧
    ∀ K : Nat → List Int → List Int → Option (List Int × Unit), Ev fun N => ∀ m, y < m → natural_GCD.l2 N (K N) m (lim x) (lim y) = K N (lim x') (lim y') := by
  intro y
  induction y using Nat.strongRecOn with
  | ind y ih =>
    intro x hx hy
    have hxl := hx.lim.len
    have hyl := hy.lim.len
    by_cases hstop : (lim y).length ≤ 2 ∧ ((lim x).length ≤ 2 ∨ y = 0)
    · refine ⟨x, y, rfl, hstop.1, hstop.2, hx, fun K => Ev.of fun N m hm => ?_⟩
      obtain ⟨m, rfl⟩ : ∃ k, m = k + 1 := ⟨m - 1, by omega⟩
      show natural_GCD.p2 N (K N) (natural_GCD.l2 N (K N) m) (lim x) (lim y) = _
      unfold natural_GCD.p2
      rw [if_neg (by rw [decide_eq_true_eq]; omega)]
      rcases hstop.2 with h | h
      · rw [if_neg (by rw [decide_eq_true_eq]; omega)]
      · subst h
        split
        · rw [lim_zero, if_neg (by simp)]
        · rfl
    · have hy0 : y ≠ 0 := fun h => hstop ⟨by rw [h, lim_zero]; simp, .inr h⟩
      have hylen : ¬ (lim y).length = 0 := fun h => hy0 (lim_len_zero.1 h)
      have hlt : x % y < y := Nat.mod_lt _ (by omega)
      obtain ⟨x', y', k1, k2, k3, k4, k5⟩ := ih (x % y) hlt y hy (hy.mono (Nat.le_of_lt hlt))
      refine ⟨x', y', by rw [k1, Nat.gcd_comm y, ← Nat.gcd_rec, Nat.gcd_comm], k2, k3, k4, fun K => ?_⟩
      have dE := divmod_ok hx.lim hy.lim (by rw [V_lim]; exact hx) (by rw [V_lim]; exact hy)
      rw [V_lim, V_lim] at dE
      refine ((k5 K).and dE).mono fun N ⟨h1, h2⟩ m hm => ?_
      obtain ⟨m, rfl⟩ : ∃ k, m = k + 1 := ⟨m - 1, by omega⟩
      show natural_GCD.p2 N (K N) (natural_GCD.l2 N (K N) m) (lim x) (lim y) = _
      have go : natural_GCD.q3 N (fun y0 y1 => natural_GCD.l2 N (K N) m y0 y1) (lim x) (lim y) = K N (lim x') (lim y') := by
        unfold natural_GCD.q3
        rw [h2, if_neg hy0]
        exact h1 m (by omega)
      unfold natural_GCD.p2
      by_cases hl : 2 < (lim y).length
      · rw [if_pos (decide_eq_true (by omega))]
        exact go
      · have hxl2 : 2 < (lim x).length := by
          rcases Nat.lt_or_ge 2 (lim x).length with h | h
          · exact h
          · exact absurd ⟨by omega, .inl h⟩ hstop
        rw [if_neg (by rw [decide_eq_true_eq]; omega), if_pos (decide_eq_true (by omega)), if_pos (decide_eq_true (by omega))]
        exact go
theorem gcd_ok {a b : List Int} (ha : L a) (hb : L b) (sa : Sm (val a)) (sb : Sm (val b)) : Ev fun N => natural_GCD.f N a b = some (lim (Nat.gcd (val a) (val b)), ()) := by
  obtain ⟨x, y, k1, k2, k3, k4, k5⟩ := gcd_big (val b) (val a) sa sb
  have hy : y < 18446744073709551616 := lim_len2.1 k2
  have kE := k5 (fun N y0_15 y1_15 => if decide ((y1_15.length : Int) = 0) then (some (y0_15, ())) else ((natural_Uint64.f N y0_15).bind fun t17 => ((natural_Uint64.f N y1_15).bind fun t18 => (natural_GCD.l9 N (fun y8_19 => (natural_FromUint64.f N y8_19).bind fun t21 => (some (t21.1, ()))) N t17.1 t18.1))))
  by_cases h0 : y = 0
  · subst h0
    refine (((trim_ok ha sa).and (trim_ok hb sb)).and (kE.and (Ev.ge (val b + 1)))).mono fun N ⟨⟨h1, h2⟩, h3, h4⟩ => ?_
    unfold natural_GCD.f
    rw [h1, h2]
    simp only [Option.bind_some]
    refine Eq.trans (h3 N (by omega)) ?_
    rw [if_pos (by rw [lim_zero]; rfl), ← k1, Nat.gcd_zero_right]
  · have hx : x < 18446744073709551616 := lim_len2.1 (k3.resolve_right h0)
    have hg : Nat.gcd x y < 18446744073709551616 := Nat.lt_of_le_of_lt (Nat.gcd_le_right _ (by omega)) hy
    have fE := fromU_ok (v := ((Nat.gcd x y : Nat) : Int)) (by omega) (by omega)
    rw [Int.toNat_natCast] at fE
    have hyl : ¬ (lim y).length = 0 := fun h => h0 (lim_len_zero.1 h)
    refine ((((trim_ok ha sa).and (trim_ok hb sb)).and (kE.and (Ev.ge (val b + 1)))).and (((uint64_lim hx).and (uint64_lim hy)).and (fE.and (Ev.ge (y + 1))))).mono fun N ⟨⟨⟨h1, h2⟩, h3, h4⟩, ⟨h5, h6⟩, h7, h8⟩ => ?_
    unfold natural_GCD.f
    rw [h1, h2]
    simp only [Option.bind_some]
    refine Eq.trans (h3 N (by omega)) ?_
    rw [if_neg (by rw [decide_eq_true_eq]; omega), h5, h6]
    simp only [Option.bind_some]
    rw [gcd_small y x hx hy N _ N (by omega), h7, ← k1]
    rfl
end Go.Proofs.YtkadllkeekoopaaGreat.Abs.T
end

section
namespace Go.Proofs.YtkadllkeekoopaaGreat.Abs.T
open Go.Proofs.YtkadllkeekoopaaGreat.Abs.Ints Go.Proofs.YtkadllkeekoopaaGreat.Abs.BN
set_option maxRecDepth 10000

theorem with_ok (N : Nat) (b : Bool) (n : Nat) : integer_with.f N b (lim n) = some (I (if b then -(n : Int) else (n : Int)), ()) := by
  unfold integer_with.f
  rw [← I_eq]
  cases b with
  | true => rw [if_pos rfl, lim_pos_len]; rfl
  | false => rfl
theorem izero_ok {p : Bool × List Int} (h : L p.2) : Ev fun N => integer_zero.f N p = some (decide (iv p = 0), ()) := by
  refine (bits_ok h).mono fun N h1 => ?_
  unfold integer_zero.f
  rw [h1]
  simp only [Option.bind_some]
  have e : (((bl (val p.2) : Nat) : Int) = 0) ↔ iv p = 0 := by
    have := iv_abs p
    rcases Nat.eq_zero_or_pos (val p.2) with h0 | h0
    · rw [h0, bl_zero]
      constructor <;> intro <;> omega
    · have := bl_pos h0
      constructor <;> intro <;> omega
  by_cases hz : iv p = 0
  · rw [decide_eq_true hz, decide_eq_true (e.2 hz)]
  · rw [decide_eq_false hz, decide_eq_false (fun h => hz (e.1 h))]
theorem sign_ok {p : Bool × List Int} (h : L p.2) : Ev fun N => integer_Sign.f N p = some (sgn (iv p), ()) := by
  refine (izero_ok h).mono fun N h1 => ?_
  unfold integer_Sign.f
  rw [h1]
  simp only [Option.bind_some]
  unfold sgn
  by_cases hz : iv p = 0
  · rw [decide_eq_true hz, if_pos rfl, if_pos hz]
  · rw [decide_eq_false hz, if_neg (by simp), if_neg hz]
    have ha := iv_abs p
    cases hp : p.1 with
    | true =>
      have : iv p < 0 := by
        have e : iv p = -(val p.2 : Int) := by unfold iv; rw [hp, if_pos rfl]
        omega
      rw [if_pos rfl, if_pos this]
    | false =>
      have : ¬ iv p < 0 := by
        have e : iv p = (val p.2 : Int) := by unfold iv; rw [hp, if_neg (by simp)]
        omega
      rw [if_neg (by simp), if_neg this]
theorem fromInt_ok {v : Int} (h0 : -9223372036854775808 ≤ v) (h1 : v < 9223372036854775808) : Ev fun N => integer_FromInt.f N v = some (I v, ()) := by
  by_cases hv : v < 0
  · have fE := fromU_ok (v := -v) (by omega) (by omega)
    refine fE.mono fun N e => ?_
    unfold integer_FromInt.f
    rw [if_pos (decide_eq_true hv), wi (n := v + 1) (by omega) (by omega), wi (n := 0 - (v + 1)) (by omega) (by omega), w64 (n := 0 - (v + 1)) (by omega) (by omega), w64 (by omega) (by omega), show 0 - (v + 1) + 1 = -v by omega, e]
    simp only [Option.bind_some]
    rw [with_ok]
    simp only [Option.bind_some, if_true]
    rw [show -(((-v).toNat : Nat) : Int) = v by omega]
  · have fE := fromU_ok (v := v) (by omega) (by omega)
    refine fE.mono fun N e => ?_
    unfold integer_FromInt.f
    rw [if_neg (by rw [decide_eq_true_eq]; exact hv), w64 (by omega) (by omega), e]
    simp only [Option.bind_some]
    rw [with_ok]
    simp only [Option.bind_some, Bool.false_eq_true, if_false]
    rw [show ((v.toNat : Nat) : Int) = v by omega]
theorem iv_if (p : Bool × List Int) : (if p.1 then -(val p.2 : Int) else (val p.2 : Int)) = iv p := rfl
theorem inorm_ok {p : Bool × List Int} (h : L p.2) (hs : Sm (val p.2)) : Ev fun N => integer_Norm.f N p = some (I (iv p), ()) := by
  refine (trim_ok h hs).mono fun N h1 => ?_
  unfold integer_Norm.f
  rw [h1]
  simp only [Option.bind_some]
  rw [with_ok]
  rfl
theorem ineg_ok {p : Bool × List Int} (h : L p.2) (hs : Sm (val p.2)) : Ev fun N => integer_Neg.f N p = some (I (-iv p), ()) := by
  refine (trim_ok h hs).mono fun N h1 => ?_
  unfold integer_Neg.f
  rw [h1]
  simp only [Option.bind_some]
  rw [with_ok]
  simp only [Option.bind_some]
  congr 3
  unfold iv
  cases p.1 <;> simp
theorem icmp_ok {p q : Bool × List Int} (hp : L p.2) (hq : L q.2) : Ev fun N => integer_Compare.f N p q = some (cmpZ (iv p) (iv q), ()) := by
  refine (((sign_ok hp).and (sign_ok hq)).and ((compare_ok hp hq).and (compare_ok hq hp))).mono fun N ⟨⟨h1, h2⟩, h3, h4⟩ => ?_
  unfold integer_Compare.f
  rw [h1, h2]
  simp only [Option.bind_some]
  rw [h3, h4]
  simp only [Option.bind_some]
  have ha := iv_abs p
  have hb := iv_abs q
  have lt1 : ∀ x : Int × Int, decide (x.1 < x.2) = true ↔ x.1 < x.2 := fun x => decide_eq_true_iff
  rcases Int.lt_trichotomy (iv p) 0 with h | h | h <;> rcases Int.lt_trichotomy (iv q) 0 with g | g | g
  · rw [sgn_neg h, sgn_neg g, if_neg (by decide), if_neg (by decide), if_pos (by decide)]
    unfold cmpZ cmpN
    congr 2
    split <;> split <;> (try split) <;> (try split) <;> omega
  · rw [sgn_neg h, sgn_zero g, if_pos (by decide)]
    unfold cmpZ; rw [if_pos (by omega)]
  · rw [sgn_neg h, sgn_pos g, if_pos (by decide)]
    unfold cmpZ; rw [if_pos (by omega)]
  · rw [sgn_zero h, sgn_neg g, if_neg (by decide), if_pos (by decide)]
    unfold cmpZ; rw [if_neg (by omega), if_neg (by omega)]
  · rw [sgn_zero h, sgn_zero g, if_neg (by decide), if_neg (by decide), if_neg (by decide)]
    unfold cmpZ cmpN
    congr 2
    split <;> split <;> (try split) <;> (try split) <;> omega
  · rw [sgn_zero h, sgn_pos g, if_pos (by decide)]
    unfold cmpZ; rw [if_pos (by omega)]
  · rw [sgn_pos h, sgn_neg g, if_neg (by decide), if_pos (by decide)]
    unfold cmpZ; rw [if_neg (by omega), if_neg (by omega)]
  · rw [sgn_pos h, sgn_zero g, if_neg (by decide), if_pos (by decide)]
    unfold cmpZ; rw [if_neg (by omega), if_neg (by omega)]
  · rw [sgn_pos h, sgn_pos g, if_neg (by decide), if_neg (by decide), if_neg (by decide)]
    unfold cmpZ cmpN
    congr 2
    split <;> split <;> (try split) <;> (try split) <;> omega
theorem iadd_ok {p q : Bool × List Int} (hp : L p.2) (hq : L q.2) (sp : Sm (val p.2)) (sq : Sm (val q.2)) : Ev fun N => integer_Add.f N p q = some (I (iv p + iv q), ()) := by
  refine ((add_ok hp hq sp sq).and ((sub_ok hp hq sp).and (sub_ok hq hp sq))).mono fun N ⟨h1, h2, h3⟩ => ?_
  unfold integer_Add.f
  by_cases he : p.1 = q.1
  · rw [if_pos (by rw [he]; simp), h1]
    simp only [Option.bind_some]
    rw [with_ok]
    simp only [Option.bind_some]
    congr 3
    unfold iv
    rw [he]
    split <;> omega
  · rw [if_neg (by simpa using he), h2]
    by_cases hlt : val p.2 < val q.2
    · rw [if_pos hlt]
      simp only [Option.bind_some, Bool.false_eq_true, if_false]
      rw [h3, if_neg (by omega)]
      simp only [Option.bind_some]
      rw [with_ok]
      simp only [Option.bind_some]
      congr 3
      unfold iv
      cases hp1 : p.1 <;> cases hq1 : q.1 <;> rw [hp1, hq1] at he <;> simp only [if_true, Bool.false_eq_true, if_false] <;> first | exact absurd rfl he | omega
    · rw [if_neg hlt]
      simp only [Option.bind_some, if_true]
      rw [with_ok]
      simp only [Option.bind_some]
      congr 3
      unfold iv
      cases hp1 : p.1 <;> cases hq1 : q.1 <;> rw [hp1, hq1] at he <;> simp only [if_true, Bool.false_eq_true, if_false] <;> first | exact absurd rfl he | omega
theorem imul_ok {p q : Bool × List Int} (hp : L p.2) (hq : L q.2) (sp : Sm (val p.2)) (sq : Sm (val q.2)) : Ev fun N => integer_Mul.f N p q = some (I (iv p * iv q), ()) := by
  refine (mul_ok hp hq sp sq).mono fun N h1 => ?_
  unfold integer_Mul.f
  rw [h1]
  simp only [Option.bind_some]
  rw [with_ok]
  simp only [Option.bind_some]
  congr 3
  unfold iv
  rw [Int.natCast_mul]
  cases p.1 <;> cases q.1 <;> simp [Int.neg_mul, Int.mul_neg]
theorem idiv_ok {p q : Bool × List Int} (hp : L p.2) (hq : L q.2) (sp : Sm (val p.2)) (sq : Sm (val q.2)) : Ev fun N => integer_DivMod.f N p q = if iv q = 0 then some ((false, []), (false, []), false, ()) else some (I (iv p / iv q), I (iv p % iv q), true, ()) := by
  have ha := iv_abs p
  have hb := iv_abs q
  by_cases h0 : iv q = 0
  · refine (divmod_ok hp hq sp sq).mono fun N h1 => ?_
    unfold integer_DivMod.f
    rw [h1, if_pos (by omega), if_pos h0]
    rfl
  · have hb0 : val q.2 ≠ 0 := by omega
    have hmlt : val p.2 % val q.2 < val q.2 := Nat.mod_lt _ (by omega)
    have hdle : val p.2 / val q.2 ≤ val p.2 := Nat.div_le_self ..
    have sd : Sm (val p.2 / val q.2) := sp.mono hdle
    have sm : Sm (val p.2 % val q.2) := sq.mono (Nat.le_of_lt hmlt)
    have s1 : Sm 1 := by unfold Sm; rw [lim_pos (by omega), lim_zero]; decide
    have fE := fromU_ok (v := 1) (by omega) (by omega)
    have aE := add_ok sd.lim s1.lim (by rw [V_lim]; exact sd) (by rw [V_lim]; exact s1)
    have sE := sub_ok hq sm.lim sq
    rw [V_lim, V_lim] at aE
    rw [V_lim] at sE
    refine ((divmod_ok hp hq sp sq).and (fE.and (aE.and sE))).mono fun N ⟨h1, h2, h3, h4⟩ => ?_
    have hpv : iv p = if p.1 then -(val p.2 : Int) else (val p.2 : Int) := rfl
    have hqv : iv q = if q.1 then -(val q.2 : Int) else (val q.2 : Int) := rfl
    have hdm := Nat.div_add_mod (val p.2) (val q.2)
    -- quotient and remainder by their law
    have law : ∀ (k r : Int), iv p = iv q * k + r → 0 ≤ r → r < (val q.2 : Int) → iv p / iv q = k ∧ iv p % iv q = r := fun k r h1 h2 h3 => by
      have e1 : iv p % iv q = r := by
        rw [h1, Int.mul_add_emod_self_left]
        exact Int.emod_eq_of_lt h2 (by omega) |> fun h => by
          rcases Int.lt_or_le (iv q) 0 with hn | hn
          · rw [← Int.emod_neg, Int.emod_eq_of_lt h2 (by omega)]
          · exact Int.emod_eq_of_lt h2 (by omega)
      have e2 := Int.mul_ediv_add_emod (iv p) (iv q)
      rw [e1] at e2
      have e3 : iv q * (iv p / iv q) = iv q * k := by omega
      exact ⟨Int.eq_of_mul_eq_mul_left h0 e3, e1⟩
    unfold integer_DivMod.f
    rw [h1, if_neg hb0, if_neg h0]
    simp only [Option.bind_some, Bool.not_true, Bool.false_eq_true, if_false]
    generalize hqd : val p.2 / val q.2 = d at *
    generalize hrm : val p.2 % val q.2 = r at *
    have hdmi : (val p.2 : Int) = (val q.2 : Int) * (d : Int) + (r : Int) := by rw [← hdm, Int.natCast_add, Int.natCast_mul]
    have plain : (p.1 = false ∨ r = 0) → integer_DivMod.q7 N (lim d) (lim r) p q (false, []) (false, []) = some (I (iv p / iv q), I (iv p % iv q), true, ()) := fun hc => by
      obtain ⟨l1, l2⟩ := law (if (!(p.1 == q.1)) then -(d : Int) else (d : Int)) (r : Int) (by
        rw [hpv, hqv, hdmi]
        rcases hc with hc | hc
        · rw [hc]; cases q.1 <;> simp [Int.neg_mul, Int.mul_neg]
        · subst hc; cases p.1 <;> cases q.1 <;> simp [Int.neg_mul, Int.mul_neg]) (by omega) (by omega)
      unfold integer_DivMod.q7
      rw [with_ok, with_ok]
      simp only [Option.bind_some, Bool.false_eq_true, if_false]
      rw [l1, l2]
    cases hp1 : p.1 with
    | false =>
      simp only [Bool.false_eq_true, if_false]
      unfold integer_DivMod.q10000005
      rw [if_neg (by simp)]
      exact plain (.inl hp1)
    | true =>
      rw [if_pos rfl, lim_pos_len]
      unfold integer_DivMod.q10000005
      by_cases hr0 : 0 < r
      · rw [if_pos (decide_eq_true hr0), h2]
        simp only [Option.bind_some]
        rw [show (1 : Int).toNat = 1 from rfl, h3]
        simp only [Option.bind_some]
        rw [h4, if_neg (by omega)]
        simp only [Option.bind_some]
        obtain ⟨l1, l2⟩ := law (if (!(p.1 == q.1)) then -((d + 1 : Nat) : Int) else ((d + 1 : Nat) : Int)) ((val q.2 - r : Nat) : Int) (by
          rw [hpv, hqv, hdmi, hp1]
          have e1 : ((val q.2 - r : Nat) : Int) = (val q.2 : Int) - (r : Int) := by omega
          have e2 : ((d + 1 : Nat) : Int) = (d : Int) + 1 := rfl
          rw [e1, e2]
          cases q.1 with
          | true => rw [if_pos rfl, if_pos rfl, if_neg (by decide)]; grind
          | false => rw [if_pos rfl, if_neg (by decide), if_pos (by decide)]; grind) (by omega) (by omega)
        unfold integer_DivMod.q7
        rw [with_ok, with_ok]
        simp only [Option.bind_some, Bool.false_eq_true, if_false]
        rw [l1, l2]
      · rw [if_neg (by rw [decide_eq_true_eq]; exact hr0)]
        exact plain (.inr (by omega))
end Go.Proofs.YtkadllkeekoopaaGreat.Abs.T
end
