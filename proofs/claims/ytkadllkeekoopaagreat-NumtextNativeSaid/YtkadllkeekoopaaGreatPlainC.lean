import Derived.Test.YtkadllkeekoopaaGreatPlainB
set_option linter.unusedVariables false
set_option linter.unusedSimpArgs false
section
namespace Go.Proofs.YtkadllkeekoopaaGreat.Abs.T
open Go.Proofs.YtkadllkeekoopaaGreat.Abs.Ints Go.Proofs.YtkadllkeekoopaaGreat.Abs.BN
set_option maxRecDepth 10000

theorem rtrim_l (N : Nat) (K : List Int → Int → Option (List Int × Unit)) : ∀ m, rf1_Trim.l2 N K m = natural_view.l2 N K m
  | 0 => rfl
  | m + 1 => by
    show rf1_Trim.p2 N K (rf1_Trim.l2 N K m) = natural_view.p2 N K (natural_view.l2 N K m)
    rw [rtrim_l N K m]
    rfl
theorem rtrim_ok {a : List Int} (h : L a) (hs : Sm (val a)) : Ev fun N => rf1_Trim.f N a = some (lim (val a), ()) := by
  obtain ⟨k, h1, h2, h3, h4⟩ := view_loop a (by have := h.len; omega) a.length (Nat.le_refl _) fun j hj => lout hj
  refine (Ev.ge (a.length + 1)).mono fun N hN => ?_
  unfold rf1_Trim.f
  rw [rtrim_l]
  have := h4 N (fun y0_1 y3_1 => if (0 : Int) ≤ y3_1 ∧ y3_1 ≤ (y0_1.length : Int) then (if (([] : List Int).length + (y0_1.take ((y3_1 : Int).toNat)).length) * 4 ≤ 140737488355328 then (some ((([] : List Int) ++ (y0_1.take ((y3_1 : Int).toNat))), ())) else none) else none) (N - (a.length + 1))
  rw [show N - (a.length + 1) + a.length + 1 = N by omega] at this
  unfold Sm at hs
  rw [this, if_pos (by omega), i2n, take_lim h.u h2 h3, List.length_nil, if_pos (by omega), List.nil_append]
theorem rtrim_lim {n : Nat} (h : Sm n) : Ev fun N => rf1_Trim.f N (lim n) = some (lim n, ()) := by
  have := rtrim_ok h.lim (by rwa [V_lim])
  rwa [V_lim] at this
theorem equal_loop (a b : List Int) (hl : a.length = b.length) (hn : a.length < 4611686018427387904) : ∀ (d i N m : Nat), i + d = a.length → (∀ j, j < i → a.getD j 0 = b.getD j 0) → rf1_Equal.l4 N (fun (_ : Unit) => some (true, ())) (m + d + 1) a b (i : Int) = some (decide (a = b), ())
  | 0, i, N, m, hi, he => by
    show rf1_Equal.p4 N _ (rf1_Equal.l4 N _ (m + 0)) a b (i : Int) = _
    unfold rf1_Equal.p4
    rw [if_neg (by rw [decide_eq_true_eq]; omega), decide_eq_true ?_]
    apply List.ext_getElem hl
    intro j h1 h2
    have := he j (by omega)
    rwa [lin h1, lin h2] at this
  | d + 1, i, N, m, hi, he => by
    show rf1_Equal.p4 N _ (rf1_Equal.l4 N _ (m + (d + 1))) a b (i : Int) = _
    unfold rf1_Equal.p4
    rw [if_pos (decide_eq_true (by omega)), if_pos (by omega), if_pos (by omega), i2n]
    by_cases h : a.getD i 0 = b.getD i 0
    · rw [if_neg (by simp only [h]; simp), wi (by omega) (by omega), cast1]
      exact equal_loop a b hl hn d (i + 1) N m (by omega) fun j hj => by
        rcases Nat.eq_or_lt_of_le (Nat.le_of_lt_succ hj) with rfl | h'
        · exact h
        · exact he j h'
    · rw [if_pos (by rw [decide_eq_false h]; rfl), decide_eq_false ?_]
      rintro rfl
      exact h rfl
theorem requal_ok {a b : List Int} (hn : a.length < 4611686018427387904) : Ev fun N => rf1_Equal.f N a b = some (decide (a = b), ()) := by
  refine (Ev.ge (a.length + 1)).mono fun N hN => ?_
  unfold rf1_Equal.f
  by_cases hl : a.length = b.length
  · rw [if_neg (by simp [hl])]
    have := equal_loop a b hl hn a.length 0 N (N - (a.length + 1)) (by omega) fun j hj => by omega
    rw [show N - (a.length + 1) + a.length + 1 = N by omega] at this
    exact this
  · rw [if_pos (by simp; omega), decide_eq_false (fun h => hl (by rw [h]))]
theorem rfromU_ok {v : Int} (h0 : 0 ≤ v) (h1 : v < 18446744073709551616) : Ev fun N => rf1_FromUint64.f N v = some (lim v.toNat, ()) := by
  obtain ⟨hu, hv⟩ := two_limbs h0 h1
  refine (rtrim_ok ⟨hu, by simp⟩ ?_).mono fun N h => ?_
  · rw [hv]
    have : v.toNat < 18446744073709551616 := by omega
    have := lim_len2.2 this
    unfold Sm; omega
  unfold rf1_FromUint64.f
  rw [h, hv]
  rfl
theorem ruint_loop {a : List Int} (ha : U a) (hl : a.length ≤ 2) : ∀ (i : Nat) (N m : Nat) (K : Int → Option (Int × Bool × Unit)), i ≤ a.length →
    rf1_Uint64.l6 N K (m + i + 1) ((val (a.drop i) : Nat) : Int) ((i : Int) - 1) a = K ((val a : Nat) : Int)
  | 0, N, m, K, hi => by
    show rf1_Uint64.p6 N K (rf1_Uint64.l6 N K (m + 0)) _ (((0 : Nat) : Int) - 1) a = _
    unfold rf1_Uint64.p6
    rw [if_neg (by simp), List.drop_zero]
  | i + 1, N, m, K, hi => by
    show rf1_Uint64.p6 N K (rf1_Uint64.l6 N K (m + (i + 1))) _ (((i + 1 : Nat) : Int) - 1) a = _
    have e1 : ((i + 1 : Nat) : Int) - 1 = (i : Int) := by omega
    obtain ⟨x, hx, hx2⟩ := at_nat ha i
    have hd := V_drop a i (by omega)
    rw [hx, Int.toNat_natCast] at hd
    have hs : val (a.drop (i + 1)) < 4294967296 := by
      have h1 := V_lt (ha.drop (i + 1))
      have h2 : 4294967296 ^ (a.drop (i + 1)).length ≤ 4294967296 ^ 1 := le_pow (by rw [List.length_drop]; omega)
      rw [Nat.pow_one] at h2
      omega
    unfold rf1_Uint64.p6
    rw [e1, if_pos (decide_eq_true (by omega)), if_pos (by omega), i2n, hx, p32]
    generalize val (a.drop (i + 1)) = y at *
    rw [w64 (n := (y : Int) * 4294967296) (by omega) (by omega), w64 (n := (x : Int)) (by omega) (by omega), or64 (by omega) (by omega) (by omega) (by omega) (by omega), wi (by omega) (by omega)]
    have := ruint_loop ha hl i N m K (by omega)
    rw [hd] at this
    rw [show (y : Int) * 4294967296 + (x : Int) = ((x + 4294967296 * y : Nat) : Int) by omega]
    exact this
theorem ruint64_ok {a : List Int} (h : L a) (hs : Sm (val a)) : Ev fun N => rf1_Uint64.f N a = if val a < 18446744073709551616 then some (((val a : Nat) : Int), true, ()) else some (0, false, ()) := by
  refine ((rtrim_ok h hs).and (Ev.ge 3)).mono fun N ⟨h1, h2⟩ => ?_
  unfold rf1_Uint64.f
  rw [h1]
  simp only [Option.bind_some]
  by_cases hs : val a < 18446744073709551616
  · have hl := lim_len2.2 hs
    rw [if_neg (by rw [decide_eq_true_eq]; omega), if_pos hs, wi (by omega) (by omega)]
    have := ruint_loop (U_lim (val a)) hl (lim (val a)).length N (N - ((lim (val a)).length + 1)) (fun y4_2 => some (y4_2, true, ())) (Nat.le_refl _)
    rw [List.drop_length, show N - ((lim (val a)).length + 1) + (lim (val a)).length + 1 = N by omega, V_lim] at this
    exact this
  · have hl : ¬ (lim (val a)).length ≤ 2 := fun h => hs (lim_len2.1 h)
    rw [if_pos (decide_eq_true (by omega)), if_neg hs]
theorem rcompare_loop {a b : List Int} (ha : U a) (hb : U b) (hl : a.length = b.length) (hn : a.length < 4611686018427387904) : ∀ (i : Nat), i ≤ a.length → val (a.drop i) = val (b.drop i) → ∀ N m,
    rf1_Compare.l7 N (fun (_ : Unit) => some (0, ())) (m + i + 1) ((i : Int) - 1) a b = some (cmpN (val a) (val b), ())
  | 0, hi, he, N, m => by
    show rf1_Compare.p7 N _ (rf1_Compare.l7 N _ (m + 0)) (((0 : Nat) : Int) - 1) a b = _
    unfold rf1_Compare.p7
    rw [if_neg (by simp)]
    simp only [List.drop_zero] at he
    unfold cmpN
    rw [he, if_neg (by omega), if_pos rfl]
  | i + 1, hi, he, N, m => by
    show rf1_Compare.p7 N _ (rf1_Compare.l7 N _ (m + (i + 1))) (((i + 1 : Nat) : Int) - 1) a b = _
    have e1 : ((i + 1 : Nat) : Int) - 1 = (i : Int) := by omega
    rw [e1]
    unfold rf1_Compare.p7
    rw [if_pos (decide_eq_true (by omega)), if_pos (by omega), if_pos (by omega), i2n]
    have sa := V_split a (i + 1) hi
    have sb := V_split b (i + 1) (by omega)
    rw [V_succ] at sa sb
    have ta := V_take_lt ha i
    have tb := V_take_lt hb i
    have ia := ha.at i
    have ib := hb.at i
    have da := V_drop a i (by omega)
    have db := V_drop b i (by omega)
    generalize a.getD i 0 = x at *
    generalize b.getD i 0 = y at *
    by_cases hlt : x < y
    · rw [if_pos (decide_eq_true hlt)]
      rw [he] at sa
      unfold cmpN
      rw [if_pos ?_]
      have : (x.toNat + 1) * 4294967296 ^ i ≤ y.toNat * 4294967296 ^ i := Nat.mul_le_mul_right _ (by omega)
      rw [Nat.add_mul] at this
      omega
    · rw [if_neg (by rw [decide_eq_true_eq]; exact hlt), if_pos (by omega), if_pos (by omega)]
      by_cases hgt : y < x
      · rw [if_pos (decide_eq_true hgt)]
        rw [he] at sa
        have : (y.toNat + 1) * 4294967296 ^ i ≤ x.toNat * 4294967296 ^ i := Nat.mul_le_mul_right _ (by omega)
        rw [Nat.add_mul] at this
        unfold cmpN
        rw [if_neg (by omega), if_neg (by omega)]
      · have hxy : x = y := by omega
        subst hxy
        rw [if_neg (by rw [decide_eq_true_eq]; exact hgt), wi (by omega) (by omega)]
        exact rcompare_loop ha hb hl hn i (by omega) (by rw [da, db, he]) N m
theorem rcompare_ok {a b : List Int} (ha : L a) (hb : L b) (sa : Sm (val a)) (sb : Sm (val b)) : Ev fun N => rf1_Compare.f N a b = some (cmpN (val a) (val b), ()) := by
  refine (((rtrim_ok ha sa).and (rtrim_ok hb sb)).and (Ev.ge ((lim (val a)).length + 1))).mono fun N ⟨⟨h1, h2⟩, h3⟩ => ?_
  unfold Sm at sa sb
  unfold rf1_Compare.f
  rw [h1, h2]
  simp only [Option.bind_some]
  by_cases hl : (lim (val a)).length = (lim (val b)).length
  · rw [if_neg (by simp [hl]), wi (by omega) (by omega)]
    have := rcompare_loop (U_lim (val a)) (U_lim (val b)) hl (by omega) (lim (val a)).length (Nat.le_refl _) (by rw [List.drop_length, hl, List.drop_length]) N (N - ((lim (val a)).length + 1))
    rw [show N - ((lim (val a)).length + 1) + (lim (val a)).length + 1 = N by omega] at this
    rw [this, V_lim, V_lim]
  · rw [if_pos (by simp; omega)]
    unfold cmpN
    by_cases hlt : (lim (val a)).length < (lim (val b)).length
    · rw [if_pos (decide_eq_true (by omega)), if_pos (cmp_len hlt)]
    · rw [if_neg (by rw [decide_eq_true_eq]; omega)]
      have := cmp_len (a := val b) (b := val a) (by omega)
      rw [if_neg (by omega), if_neg (by omega)]
end Go.Proofs.YtkadllkeekoopaaGreat.Abs.T
end

section
namespace Go.Proofs.YtkadllkeekoopaaGreat.Abs.T
open Go.Proofs.YtkadllkeekoopaaGreat.Abs.Ints Go.Proofs.YtkadllkeekoopaaGreat.Abs.BN
set_option maxRecDepth 10000

theorem w8 {n : Int} (h0 : 0 ≤ n) (h1 : n < 256) : IntKind.wrap .u8 n = n := by
  have : IntKind.wrap .u8 n = n % 256 := by simp [IntKind.wrap, IntKind.bits, IntKind.signed]
  omega
theorem dig_step {N : Nat} (Kend : List Int → Int → Int → List Int → Option (List UInt8 × Unit)) (x4 : List Int) {r i : Nat} {acc : List Int} (hr : r < 10000000000) (hi : i < 9) (ha : acc.length + 1 ≤ 140737488355328) :
    numtext_digits.q11 N Kend x4 (r : Int) (i : Int) acc = Kend x4 ((r / 10 : Nat) : Int) ((i + 1 : Nat) : Int) (acc ++ [((48 + r % 10 : Nat) : Int)]) := by
  unfold numtext_digits.q11
  have e1 : Int.tmod (r : Int) 10 = ((r % 10 : Nat) : Int) := rfl
  have e2 : Int.tdiv (r : Int) 10 = ((r / 10 : Nat) : Int) := rfl
  have h10 : r % 10 < 10 := Nat.mod_lt _ (by omega)
  rw [if_pos (by simp only [List.length_cons, List.length_nil]; omega), e1, e2]
  generalize r % 10 = a at *
  have : r / 10 < 10000000000 := by omega
  generalize r / 10 = b at *
  rw [w8 (n := (a : Int)) (by omega) (by omega), w8 (by omega) (by omega), w64 (by omega) (by omega), wi (by omega) (by omega)]
  rfl
theorem dig_inner {N : Nat} (K : List Int → List Int → Option (List UInt8 × Unit)) (q : Nat) : ∀ (d m r i : Nat) (acc : List Int), i + d = 9 → r < 10 ^ d → acc.length + (rd (q * 10 ^ d + r)).length ≤ 140737488355328 →
    ∃ t, t ++ rd q = rd (q * 10 ^ d + r) ∧ numtext_digits.l9 N K (m + d + 1) (lim q) (r : Int) (i : Int) acc = K (lim q) (acc ++ t)
  | 0, m, r, i, acc, hi, hr, hl => by
    have : r = 0 := by simpa using hr
    subst this
    refine ⟨[], by simp, ?_⟩
    show numtext_digits.p9 N K (numtext_digits.l9 N K (m + 0)) (lim q) _ (i : Int) acc = _
    unfold numtext_digits.p9
    rw [if_neg (by rw [decide_eq_true_eq]; omega), List.append_nil]
  | d + 1, m, r, i, acc, hi, hr, hl => by
    have hp : 10 ^ (d + 1) = 10 ^ d * 10 := Nat.pow_succ ..
    have hp9 : 10 ^ (d + 1) ≤ 10 ^ 9 := Nat.pow_le_pow_right (by omega) (by omega)
    have hr2 : r < 10000000000 := by
      have : (10 : Nat) ^ 9 = 1000000000 := by decide
      omega
    have hw : q * 10 ^ (d + 1) + r = (q * 10 ^ d) * 10 + r := by rw [hp, Nat.mul_assoc]
    show ∃ t, _ ∧ numtext_digits.p9 N K (numtext_digits.l9 N K (m + (d + 1))) (lim q) _ (i : Int) acc = _
    by_cases hz : q * 10 ^ (d + 1) + r = 0
    · have hq : q = 0 := by
        have : q * 10 ^ (d + 1) = 0 := by omega
        rcases Nat.mul_eq_zero.1 this with h | h
        · exact h
        · have := Nat.pow_pos (n := d + 1) (show 0 < 10 by omega); omega
      subst hq
      have hr0 : r = 0 := by omega
      subst hr0
      refine ⟨[], by simp, ?_⟩
      unfold numtext_digits.p9
      rw [if_pos (decide_eq_true (by omega)), if_neg (by rw [lim_zero]; simp), if_neg (by simp), List.append_nil]
    · have hrd := rd_pos (n := q * 10 ^ (d + 1) + r) (by omega)
      have hr3 : r / 10 < 10 ^ d := by rw [hp] at hr; omega
      rw [hrd] at hl
      rw [List.length_cons] at hl
      have ew : (q * 10 ^ (d + 1) + r) % 10 = r % 10 ∧ (q * 10 ^ (d + 1) + r) / 10 = q * 10 ^ d + r / 10 := by
        rw [hw]
        generalize q * 10 ^ d = Q at *
        omega
      rw [ew.1, ew.2] at hrd
      rw [ew.2] at hl
      obtain ⟨t, h1, h2⟩ := dig_inner (N := N) K q d m (r / 10) (i + 1) (acc ++ [((48 + r % 10 : Nat) : Int)]) (by omega) hr3 (by rw [List.length_append]; simp only [List.length_cons, List.length_nil]; omega)
      refine ⟨((48 + r % 10 : Nat) : Int) :: t, by rw [hrd, List.cons_append, h1], ?_⟩
      unfold numtext_digits.p9
      rw [if_pos (decide_eq_true (by omega))]
      have st := dig_step (N := N) (fun y4_51 y7_51 y9_51 yr3_51 => numtext_digits.l9 N K (m + (d + 1)) y4_51 y7_51 y9_51 yr3_51) (lim q) (r := r) (i := i) (acc := acc) hr2 (by omega) (by omega)
      have fin : numtext_digits.l9 N K (m + (d + 1)) (lim q) ((r / 10 : Nat) : Int) ((i + 1 : Nat) : Int) (acc ++ [((48 + r % 10 : Nat) : Int)]) = K (lim q) (acc ++ (((48 + r % 10 : Nat) : Int) :: t)) := by
        rw [show m + (d + 1) = m + d + 1 from rfl, h2, List.append_assoc]; rfl
      by_cases hq : q = 0
      · rw [if_neg (by rw [hq, lim_zero]; simp), if_pos (decide_eq_true (by subst hq; omega)), st]
        exact fin
      · have : (lim q).length ≠ 0 := fun h => hq (lim_len_zero.1 h)
        rw [if_pos (decide_eq_true (by omega)), st]
        exact fin
theorem dig_outer : ∀ (w : Nat), Sm w → ∃ k, Ev fun N => ∀ (K : List Int → Option (List UInt8 × Unit)) (m : Nat) (acc : List Int), acc.length + (rd w).length ≤ 140737488355328 → numtext_digits.l5 N K (m + k) (lim w) acc = K (acc ++ rd w) := by
  intro w
  induction w using Nat.strongRecOn with
  | ind w ih =>
    intro hw
    by_cases h0 : w = 0
    · subst h0
      refine ⟨1, Ev.of fun N K m acc _ => ?_⟩
      show numtext_digits.p5 N K (numtext_digits.l5 N K m) (lim 0) acc = _
      unfold numtext_digits.p5
      rw [lim_zero, if_neg (by simp), rd_zero, List.append_nil]
    · have hdl : w / 1000000000 < w := by omega
      have hml : w % 1000000000 < 1000000000 := Nat.mod_lt _ (by omega)
      have sd := hw.mono (Nat.le_of_lt hdl)
      obtain ⟨k, hk⟩ := ih _ hdl sd
      refine ⟨k + 1, ?_⟩
      have s9 : Sm 1000000000 := Sm.bits (b := 30) (by omega) (by omega)
      have fE := fromU_ok (v := 1000000000) (by omega) (by omega)
      have dE := divmod_ok hw.lim s9.lim (by rwa [V_lim]) (by rwa [V_lim])
      rw [V_lim, V_lim] at dE
      have uE := uint64_lim (n := w % 1000000000) (by omega)
      refine ((hk.and (Ev.ge 10)).and (fE.and (dE.and uE))).mono fun N ⟨⟨h1, hN⟩, h2, h3, h4⟩ K m acc ha => ?_
      show numtext_digits.p5 N K (numtext_digits.l5 N K (m + k)) (lim w) acc = _
      unfold numtext_digits.p5
      have hl : (lim w).length ≠ 0 := fun h => h0 (lim_len_zero.1 h)
      rw [if_pos (decide_eq_true (by omega)), h2]
      simp only [Option.bind_some]
      rw [show (1000000000 : Int).toNat = 1000000000 from rfl, h3, if_neg (by omega)]
      simp only [Option.bind_some]
      rw [h4]
      simp only [Option.bind_some]
      have e : w / 1000000000 * 10 ^ 9 + w % 1000000000 = w := by
        rw [show (10 : Nat) ^ 9 = 1000000000 by decide]; omega
      obtain ⟨t, t1, t2⟩ := dig_inner (N := N) (fun y4_53 yr3_53 => numtext_digits.l5 N K (m + k) y4_53 yr3_53) (w / 1000000000) 9 (N - 10) (w % 1000000000) 0 acc (by omega) (by rw [show (10 : Nat) ^ 9 = 1000000000 by decide]; exact hml) (by rw [e]; exact ha)
      rw [show N - 10 + 9 + 1 = N by omega] at t2
      rw [e] at t1
      show numtext_digits.l9 N _ N (lim (w / 1000000000)) ((w % 1000000000 : Nat) : Int) ((0 : Nat) : Int) acc = _
      rw [t2]
      have hlt : (t ++ rd (w / 1000000000)).length = (rd w).length := by rw [t1]
      rw [List.length_append] at hlt
      show numtext_digits.l5 N K (m + k) (lim (w / 1000000000)) (acc ++ t) = _
      rw [h1 K m (acc ++ t) (by rw [List.length_append]; omega), List.append_assoc, t1]
theorem rev_loop {N : Nat} (K : List Int → Option (List UInt8 × Unit)) (o : List Int) (hn : o.length < 4611686018427387904) : ∀ (d i m : Nat) (xs : List Int), i + d = o.length → xs.length = o.length → 2 * i ≤ o.length →
    (∀ p, p < o.length → xs.getD p 0 = if p < i ∨ o.length - i ≤ p then o.getD (o.length - 1 - p) 0 else o.getD p 0) →
    numtext_digits.l15 N K (m + d + 1) (i : Int) ((o.length : Int) - 1 - (i : Int)) xs = K o.reverse
  | d, i, m, xs, hi, hx, h2, he => by
    show numtext_digits.p15 N K (numtext_digits.l15 N K (m + d)) (i : Int) _ xs = _
    unfold numtext_digits.p15
    by_cases hc : (i : Int) < (o.length : Int) - 1 - (i : Int)
    · obtain ⟨d, rfl⟩ : ∃ e, d = e + 1 := ⟨d - 1, by omega⟩
      obtain ⟨j, hj⟩ : ∃ j : Nat, j = o.length - 1 - i := ⟨_, rfl⟩
      have ej : (o.length : Int) - 1 - (i : Int) = (j : Int) := by omega
      rw [ej] at hc ⊢
      rw [if_pos (decide_eq_true hc), if_pos (by omega), if_pos (by omega), if_pos (by omega), if_pos (by rw [List.length_set]; omega), i2n, i2n, wi (by omega) (by omega), wi (by omega) (by omega), cast1]
      have := rev_loop (N := N) K o hn d (i + 1) m ((xs.set i (xs.getD j 0)).set j (xs.getD i 0)) (by omega) (by rw [List.length_set, List.length_set]; exact hx) (by omega) fun p hp => by
        by_cases hpj : j = p
        · subst hpj
          rw [lset_self (by rw [List.length_set]; omega), if_pos (by omega), he i (by omega), if_neg (by omega)]
          congr 1; omega
        · rw [lset_ne hpj]
          by_cases hpi : i = p
          · subst hpi
            rw [lset_self (by omega), if_pos (by omega), he j (by omega), if_neg (by omega), hj]
          · rw [lset_ne hpi, he p hp]
            by_cases hq : p < i ∨ o.length - i ≤ p
            · rw [if_pos hq, if_pos (by omega)]
            · rw [if_neg hq, if_neg (by omega)]
      rw [show (o.length : Int) - 1 - ((i + 1 : Nat) : Int) = (j : Int) - 1 by omega] at this
      exact this
    · rw [if_neg (by rw [decide_eq_true_eq]; exact hc)]
      congr 1
      apply List.ext_getElem (by rw [hx, List.length_reverse])
      intro p h1 h3
      rw [List.getElem_reverse, ← lin h1, he p (by omega)]
      split
      · rw [lin (by omega)]
      · rw [lin (show p < o.length by omega)]
        congr 1; omega
theorem digits_ok {a : List Int} (h : L a) (hs : Sm (val a)) : Ev fun N => numtext_digits.f N a = some (dig (val a), ()) := by
  obtain ⟨k, hk⟩ := dig_outer (val a) hs
  refine (((trim_ok h hs).and hk).and (Ev.ge ((rd (val a)).length + 1 + k))).mono fun N ⟨⟨h1, h2⟩, h3⟩ => ?_
  unfold numtext_digits.f
  rw [h1]
  simp only [Option.bind_some]
  have hl := rd_sm hs
  unfold dig
  by_cases h0 : val a = 0
  · rw [if_pos (by rw [h0, lim_zero]; rfl), if_pos h0]
  · rw [if_neg h0, if_neg (by rw [decide_eq_true_eq]; intro h; exact h0 (lim_len_zero.1 (by omega)))]
    have := h2 (fun yr3_54 => numtext_digits.l15 N (fun yr3_56 => some ((yr3_56.map fun n => UInt8.ofNat n.toNat), ())) N 0 (IntKind.wrap .i64 ((yr3_54.length : Int) - 1)) yr3_54) (N - k) [] (by simp only [List.length_nil]; omega)
    rw [show N - k + k = N by omega] at this
    rw [this, List.nil_append]
    have hp : 0 < (rd (val a)).length := by rw [rd_pos (by omega)]; simp
    rw [wi (by omega) (by omega)]
    have r := rev_loop (N := N) (fun yr3_56 => some ((yr3_56.map fun n => UInt8.ofNat n.toNat), ())) (rd (val a)) (by omega) (rd (val a)).length 0 (N - ((rd (val a)).length + 1)) (rd (val a)) (by omega) rfl (by omega) fun p hp => by rw [if_neg (by omega)]
    rw [show N - ((rd (val a)).length + 1) + (rd (val a)).length + 1 = N by omega, show (((rd (val a)).length : Int) - 1 - ((0 : Nat) : Int)) = ((rd (val a)).length : Int) - 1 by omega] at r
    exact r
theorem formatInt_ok {p : Bool × List Int} (h : L p.2) (hs : Sm (val p.2)) : Ev fun N => numtext_FormatInt.f N p = some ((if iv p < 0 then [45] else []) ++ dig (iv p).natAbs, ()) := by
  refine ((sign_ok h).and (digits_ok h hs)).mono fun N ⟨h1, h2⟩ => ?_
  unfold numtext_FormatInt.f
  rw [h1, iv_abs]
  simp only [Option.bind_some]
  rw [h2]
  simp only [Option.bind_some]
  by_cases hn : iv p < 0
  · have := (dig_len hs).2
    rw [sgn_neg hn, if_pos (by decide), if_pos hn, if_pos (by simp only [List.length_cons, List.length_nil]; omega)]
  · rw [if_neg hn, List.nil_append, if_neg]
    unfold sgn
    rw [if_neg hn]
    split <;> decide
end Go.Proofs.YtkadllkeekoopaaGreat.Abs.T
end

section
namespace Go.Proofs.YtkadllkeekoopaaGreat.Abs.T
open Go.Proofs.YtkadllkeekoopaaGreat.Abs.Ints Go.Proofs.YtkadllkeekoopaaGreat.Abs.BN
set_option maxRecDepth 10000

/-! ## The reading of texts of digits -/
def isD (c : UInt8) : Bool := decide (48 ≤ c.toNat) && decide (c.toNat ≤ 57)
def adB (s : List UInt8) : Bool := s.all isD
def AS (s : List UInt8) : Prop := ∀ c ∈ s, c.toNat < 128
def plB (s : List UInt8) : Bool := adB s && (match s with | [] => false | c :: r => !decide (c.toNat = 48) || r.isEmpty)
def sgT (s : List UInt8) : Bool × List UInt8 := match s with | [] => (false, []) | c :: r => if c.toNat = 45 then (true, r) else (false, c :: r)
def nuB (s : List UInt8) : Bool := plB (sgT s).2 && (!(sgT s).1 || !((sgT s).2 == [48]))
def cnt (s : List UInt8) : Nat := s.countP isD
theorem isD_iff {c : UInt8} : isD c = true ↔ 48 ≤ c.toNat ∧ c.toNat ≤ 57 := by simp [isD]
theorem adB_iff {s : List UInt8} : adB s = true ↔ ∀ c ∈ s, 48 ≤ c.toNat ∧ c.toNat ≤ 57 := by
  unfold adB
  rw [List.all_eq_true]
  exact ⟨fun h c hc => isD_iff.1 (h c hc), fun h c hc => isD_iff.2 (h c hc)⟩
theorem cin {a : List UInt8} {i : Nat} (h : i < a.length) : a.getD i 0 = a[i] := by
  rw [List.getD_eq_getElem?_getD, List.getElem?_eq_getElem h]; rfl
theorem dec_ascii {s : List UInt8} {p : Nat} (h : p < s.length) (hc : (s.getD p 0).toNat < 128) : Go.Proofs.YtkadllkeekoopaaGreat.Abs.dec s p = ((s.getD p 0).toNat, 1) := by
  have e : ByteArray.get! ⟨s.toArray⟩ (p + 0) = s.getD p 0 := by
    show s.toArray[p]! = _
    rw [cin h]
    simp [h]
  have hc' : (ByteArray.get! ⟨s.toArray⟩ (p + 0)).toNat < 128 := by rw [e]; exact hc
  have : Go.Proofs.YtkadllkeekoopaaGreat.Abs.dec s p = ((ByteArray.get! ⟨s.toArray⟩ (p + 0)).toNat, 1) := if_pos hc'
  rw [this, e]
theorem allD_loop {N : Nat} (K : List UInt8 → Option (Bool × Unit)) (x0 s : List UInt8) (ha : AS s) : ∀ (d i m : Nat), i + d = s.length → numtext_allDigits.l2 N K (m + d + 1) x0 s i = if adB (s.drop i) then K x0 else some (false, ())
  | 0, i, m, hi => by
    show numtext_allDigits.p2 N K (numtext_allDigits.l2 N K (m + 0)) x0 s i = _
    unfold numtext_allDigits.p2
    rw [if_neg (by omega), List.drop_of_length_le (by omega)]
    rfl
  | d + 1, i, m, hi => by
    show numtext_allDigits.p2 N K (numtext_allDigits.l2 N K (m + (d + 1))) x0 s i = _
    unfold numtext_allDigits.p2 numtext_allDigits.q10000005
    have hl : i < s.length := by omega
    have hc : (s.getD i 0).toNat < 128 := by rw [cin hl]; exact ha _ (List.getElem_mem hl)
    have ih := allD_loop (N := N) K x0 s ha d (i + 1) m (by omega)
    rw [if_pos hl, dec_ascii hl hc]
    have es : s.drop i = s.getD i 0 :: s.drop (i + 1) := by rw [List.drop_eq_getElem_cons hl, cin hl]
    have ea : adB (s.drop i) = (isD (s.getD i 0) && adB (s.drop (i + 1))) := by rw [es]; rfl
    rw [ea]
    generalize s.getD i 0 = c at *
    dsimp only
    by_cases h1 : ((c.toNat : Nat) : Int) < 48
    · rw [if_pos (decide_eq_true h1), if_pos rfl]
      have : isD c = false := by rw [Bool.eq_false_iff]; intro h; have := isD_iff.1 h; omega
      rw [this]; rfl
    · rw [if_neg (by rw [decide_eq_true_eq]; exact h1)]
      by_cases h2 : (57 : Int) < ((c.toNat : Nat) : Int)
      · rw [if_pos (decide_eq_true h2)]
        have : isD c = false := by rw [Bool.eq_false_iff]; intro h; have := isD_iff.1 h; omega
        rw [this]; rfl
      · rw [if_neg (by rw [decide_eq_true_eq]; exact h2)]
        have : isD c = true := isD_iff.2 ⟨by omega, by omega⟩
        rw [this, Bool.true_and]
        exact ih
theorem allD_ok {s : List UInt8} (ha : AS s) : Ev fun N => numtext_allDigits.f N s = some (adB s && !(s == []), ()) := by
  refine (Ev.ge (s.length + 1)).mono fun N hN => ?_
  unfold numtext_allDigits.f
  have := allD_loop (N := N) (fun y0_9 => some (!(y0_9 == ([] : List UInt8)), ())) s s ha s.length 0 (N - (s.length + 1)) (by omega)
  rw [show N - (s.length + 1) + s.length + 1 = N by omega] at this
  rw [this, List.drop_zero]
  cases adB s <;> rfl
theorem plain_ok {s : List UInt8} (ha : AS s) : Ev fun N => numtext_plain.f N s = some (plB s, ()) := by
  refine (allD_ok ha).mono fun N h1 => ?_
  unfold numtext_plain.f
  rw [h1]
  simp only [Option.bind_some]
  cases s with
  | nil => rfl
  | cons c r =>
    unfold plB
    cases hd : adB (c :: r) with
    | false => rw [if_neg (by simp)]; rfl
    | true =>
      rw [if_pos (by simp), if_pos (by simp only [List.length_cons]; omega)]
      show (if (!decide (((c.toNat : Nat) : Int) = 48)) = true then _ else _) = _
      by_cases h : c.toNat = 48
      · rw [if_neg (by simp; omega)]
        dsimp only
        rw [decide_eq_true h]
        cases r with
        | nil => rfl
        | cons x y => rw [decide_eq_false (by simp only [List.length_cons]; omega)]; rfl
      · rw [if_pos (by simp; omega)]
        dsimp only
        rw [decide_eq_false h]; rfl
theorem sgT_ok (N : Nat) (s : List UInt8) : numtext_sign.f N s = some ((sgT s).1, (sgT s).2, ()) := by
  unfold numtext_sign.f
  cases s with
  | nil => rfl
  | cons c r =>
    rw [if_pos (by simp), if_pos (by simp only [List.length_cons]; omega)]
    unfold numtext_sign.q10000002 sgT
    show (if decide (((c.toNat : Nat) : Int) = 45) = true then _ else _) = _
    by_cases h : c.toNat = 45
    · rw [if_pos (decide_eq_true (by omega)), if_pos (by simp only [List.length_cons]; omega)]
      simp only [h, if_true]
      rfl
    · rw [if_neg (by rw [decide_eq_true_eq]; omega)]
      simp only [h, if_false]
      rfl
theorem sgT_mem {s : List UInt8} : ∀ c ∈ (sgT s).2, c ∈ s := by
  intro c hc
  cases s with
  | nil => exact hc
  | cons x r =>
    by_cases h : x.toNat = 45
    · have : sgT (x :: r) = (true, r) := by unfold sgT; simp only [h, if_true]
      rw [this] at hc; exact List.mem_cons_of_mem _ hc
    · have : sgT (x :: r) = (false, x :: r) := by unfold sgT; simp only [h, if_false]
      rw [this] at hc; exact hc
theorem isNumber_ok {s : List UInt8} (ha : AS s) : Ev fun N => numtext_isNumber.f N s = some (nuB s, ()) := by
  refine (plain_ok (s := (sgT s).2) fun c hc => ha c (sgT_mem c hc)).mono fun N h1 => ?_
  unfold numtext_isNumber.f
  rw [sgT_ok]
  simp only [Option.bind_some]
  rw [h1]
  simp only [Option.bind_some]
  unfold nuB
  cases plB (sgT s).2 <;> cases (sgT s).1 <;> rfl
theorem count_loop {N : Nat} (K : Int → Option (Int × Unit)) (s : List UInt8) (hn : s.length < 4611686018427387904) : ∀ (d i m c : Nat), i + d = s.length → c ≤ i → numtext_count.l3 N K (m + d + 1) s (c : Int) (i : Int) = K ((c + cnt (s.drop i) : Nat) : Int)
  | 0, i, m, c, hi, hc => by
    show numtext_count.p3 N K (numtext_count.l3 N K (m + 0)) s (c : Int) (i : Int) = _
    unfold numtext_count.p3
    rw [if_neg (by rw [decide_eq_true_eq]; omega), List.drop_of_length_le (by omega)]
    rfl
  | d + 1, i, m, c, hi, hc => by
    show numtext_count.p3 N K (numtext_count.l3 N K (m + (d + 1))) s (c : Int) (i : Int) = _
    unfold numtext_count.p3 numtext_count.q10000006 numtext_count.q4
    have hl : i < s.length := by omega
    have ih0 := count_loop (N := N) K s hn d (i + 1) m c (by omega) (by omega)
    have ih1 := count_loop (N := N) K s hn d (i + 1) m (c + 1) (by omega) (by omega)
    have es : s.drop i = s.getD i 0 :: s.drop (i + 1) := by rw [List.drop_eq_getElem_cons hl, cin hl]
    have ec : cnt (s.drop i) = cnt (s.drop (i + 1)) + if isD (s.getD i 0) then 1 else 0 := by rw [es]; exact List.countP_cons
    rw [if_pos (decide_eq_true (by omega)), if_pos (by omega), i2n]
    dsimp only
    rw [wi (n := (i : Int) + 1) (by omega) (by omega), wi (n := (c : Int) + 1) (by omega) (by omega), cast1, cast1, ec]
    have hin : (0 : Int) ≤ (i : Int) ∧ (i : Int) < (s.length : Int) := by omega
    simp only [hin, and_self, if_true]
    generalize s.getD i 0 = x at *
    have no : isD x = false → numtext_count.l3 N K (m + (d + 1)) s (c : Int) ((i + 1 : Nat) : Int) = K ((c + (cnt (s.drop (i + 1)) + if isD x = true then 1 else 0) : Nat) : Int) := fun h => by
      rw [h]
      exact ih0
    by_cases h1 : (48 : Int) ≤ ((x.toNat : Nat) : Int)
    · rw [if_pos (decide_eq_true h1)]
      by_cases h2 : ((x.toNat : Nat) : Int) ≤ 57
      · rw [if_pos (decide_eq_true h2), isD_iff.2 ⟨by omega, by omega⟩, if_pos rfl, show c + (cnt (s.drop (i + 1)) + 1) = c + 1 + cnt (s.drop (i + 1)) by omega]
        exact ih1
      · rw [if_neg (by rw [decide_eq_true_eq]; exact h2)]
        exact no (by rw [Bool.eq_false_iff]; intro h; have := isD_iff.1 h; omega)
    · rw [if_neg (by rw [decide_eq_true_eq]; exact h1), if_neg (by simp)]
      exact no (by rw [Bool.eq_false_iff]; intro h; have := isD_iff.1 h; omega)
theorem count_ok {s : List UInt8} (hn : s.length < 4611686018427387904) : Ev fun N => numtext_count.f N s = some (((cnt s : Nat) : Int), ()) := by
  refine (Ev.ge (s.length + 1)).mono fun N hN => ?_
  unfold numtext_count.f
  have := count_loop (N := N) (fun y3_17 => some (y3_17, ())) s hn s.length 0 (N - (s.length + 1)) 0 (by omega) (by omega)
  rw [show N - (s.length + 1) + s.length + 1 = N by omega, List.drop_zero, Nat.zero_add] at this
  exact this

/-! ## Numbers from texts -/
theorem num_lin : ∀ (s : List UInt8) (v : Nat), num s v = v * 10 ^ s.length + num s 0
  | [], v => by simp [num]
  | c :: r, v => by
    show num r (10 * v + (c.toNat - 48)) = v * 10 ^ (r.length + 1) + num r (10 * 0 + (c.toNat - 48))
    rw [num_lin r, num_lin r (10 * 0 + _), Nat.pow_succ, Nat.mul_zero, Nat.zero_add, Nat.add_mul, show v * (10 ^ r.length * 10) = 10 * v * 10 ^ r.length by rw [Nat.mul_comm (10 ^ r.length), ← Nat.mul_assoc, Nat.mul_comm v 10]]
    omega
theorem num_ge (s : List UInt8) (v : Nat) : v ≤ num s v := by
  rw [num_lin]
  have := Nat.le_mul_of_pos_right v (Nat.pow_pos (n := s.length) (show 0 < 10 by omega))
  omega
theorem num_lt : ∀ {s : List UInt8}, adB s = true → num s 0 < 10 ^ s.length
  | [], _ => by decide
  | c :: r, h => by
    have hc := adB_iff.1 h c (List.mem_cons_self ..)
    have hr : adB r = true := adB_iff.2 fun x hx => adB_iff.1 h x (List.mem_cons_of_mem _ hx)
    have ih := num_lt hr
    show num r (10 * 0 + (c.toNat - 48)) < 10 ^ (r.length + 1)
    rw [num_lin, Nat.mul_zero, Nat.zero_add, Nat.pow_succ]
    have : (c.toNat - 48) * 10 ^ r.length ≤ 9 * 10 ^ r.length := Nat.mul_le_mul_right _ (by omega)
    omega
theorem num_take {s : List UInt8} {i : Nat} (h : i < s.length) : num (s.take (i + 1)) 0 = 10 * num (s.take i) 0 + ((s.getD i 0).toNat - 48) := by
  rw [← List.take_append_getElem h, num_app, cin h]
  rfl
theorem number_in {N : Nat} (K : List UInt8 → List Int → Int → Int → Int → Option (List Int × Unit)) (s : List UInt8) (ha : adB s = true) (x3 : List Int) (x4 : Int) (k : Nat) (hk : k ≤ s.length) (hk9 : k ≤ 9) : ∀ (d i m : Nat), i + d = k →
    numtext_number.l6 N K (m + d + 1) s x3 x4 ((num (s.take i) 0 : Nat) : Int) ((10 ^ i : Nat) : Int) (k : Int) (i : Int) = K s x3 x4 ((num (s.take k) 0 : Nat) : Int) ((10 ^ k : Nat) : Int)
  | 0, i, m, hi => by
    show numtext_number.p6 N K (numtext_number.l6 N K (m + 0)) s x3 x4 _ _ (k : Int) (i : Int) = _
    unfold numtext_number.p6
    have : i = k := by omega
    subst this
    rw [if_neg (by rw [decide_eq_true_eq]; omega)]
  | d + 1, i, m, hi => by
    show numtext_number.p6 N K (numtext_number.l6 N K (m + (d + 1))) s x3 x4 _ _ (k : Int) (i : Int) = _
    unfold numtext_number.p6
    have hl : i < s.length := by omega
    have ih := number_in (N := N) K s ha x3 x4 k hk hk9 d (i + 1) m (by omega)
    rw [num_take hl, Nat.pow_succ] at ih
    have hc := adB_iff.1 ha (s.getD i 0) (by rw [cin hl]; exact List.getElem_mem hl)
    have hlt : num (s.take i) 0 < 10 ^ i := by
      have := num_lt (s := s.take i) (adB_iff.2 fun c h => adB_iff.1 ha c (List.mem_of_mem_take h))
      rwa [List.length_take, Nat.min_eq_left (by omega)] at this
    have hp : 10 ^ i ≤ 10 ^ 9 := Nat.pow_le_pow_right (by omega) (by omega)
    rw [show (10 : Nat) ^ 9 = 1000000000 by decide] at hp
    rw [if_pos (decide_eq_true (by omega)), if_pos (by omega), i2n, wi (by omega) (by omega), cast1]
    generalize s.getD i 0 = x at *
    generalize num (s.take i) 0 = v at *
    generalize 10 ^ i = P at *
    rw [w8 (n := ((x.toNat : Nat) : Int) - 48) (by omega) (by omega), w64 (n := ((x.toNat : Nat) : Int) - 48) (by omega) (by omega), w64 (n := 10 * (v : Int)) (by omega) (by omega), w64 (n := 10 * (v : Int) + _) (by omega) (by omega), w64 (n := (P : Int) * 10) (by omega) (by omega)]
    rw [show 10 * (v : Int) + (((x.toNat : Nat) : Int) - 48) = ((10 * v + (x.toNat - 48) : Nat) : Int) by omega]
    exact ih
theorem number_out : ∀ (n : Nat) (s : List UInt8), s.length = n → adB s = true → ∀ v, Sm (num s v) → ∃ k, Ev fun N => ∀ (K : List Int → Option (List Int × Unit)) (m : Nat), numtext_number.l2 N K (m + k) s (lim v) = K (lim (num s v)) := by
  intro n
  induction n using Nat.strongRecOn with
  | ind n ih =>
    intro s hs ha v hv
    by_cases h0 : n = 0
    · have : s = [] := List.length_eq_zero_iff.1 (by omega)
      subst this
      refine ⟨1, Ev.of fun N K m => ?_⟩
      show numtext_number.p2 N K (numtext_number.l2 N K m) [] (lim v) = _
      unfold numtext_number.p2
      rw [if_neg (by simp)]
      rfl
    · obtain ⟨j, hj⟩ : ∃ j, j = min 9 s.length := ⟨_, rfl⟩
      have hj1 : 0 < j := by omega
      have ht : adB (s.take j) = true := adB_iff.2 fun c h => adB_iff.1 ha c (List.mem_of_mem_take h)
      have hd : adB (s.drop j) = true := adB_iff.2 fun c h => adB_iff.1 ha c (List.mem_of_mem_drop h)
      have hsp : num s v = num (s.drop j) (num (s.take j) v) := by rw [← num_app, List.take_append_drop]
      have hlin := num_lin (s.take j) v
      have hlen : (s.take j).length = j := by rw [List.length_take]; omega
      rw [hlen] at hlin
      have hlt := num_lt ht
      rw [hlen] at hlt
      have hp : 10 ^ j ≤ 10 ^ 9 := Nat.pow_le_pow_right (by omega) (by omega)
      rw [show (10 : Nat) ^ 9 = 1000000000 by decide] at hp
      have hge := num_ge (s.drop j) (num (s.take j) v)
      rw [← hsp] at hge
      obtain ⟨k, hk⟩ := ih (s.drop j).length (by rw [List.length_drop]; omega) (s.drop j) rfl hd (num (s.take j) v) (by rw [← hsp]; exact hv)
      refine ⟨k + 1, ?_⟩
      have hpp : 0 < 10 ^ j := Nat.pow_pos (by omega)
      have hvm : v ≤ v * 10 ^ j := Nat.le_mul_of_pos_right v hpp
      have s1 : Sm v := hv.mono (by omega)
      have s2 : Sm (v * 10 ^ j) := hv.mono (by omega)
      have s3 : Sm (10 ^ j) := Sm.bits (b := 30) (by omega) (by omega)
      have s4 : Sm (num (s.take j) 0) := Sm.bits (b := 30) (by omega) (by omega)
      have fE := fromU_ok (v := ((10 ^ j : Nat) : Int)) (by omega) (by omega)
      have gE := fromU_ok (v := ((num (s.take j) 0 : Nat) : Int)) (by omega) (by omega)
      have mE := mul_ok s1.lim s3.lim (by rwa [V_lim]) (by rwa [V_lim])
      rw [V_lim, V_lim] at mE
      have aE := add_ok s2.lim s4.lim (by rwa [V_lim]) (by rwa [V_lim])
      rw [V_lim, V_lim, ← hlin] at aE
      refine (((hk.and (Ev.ge 10)).and (fE.and gE)).and (mE.and aE)).mono fun N ⟨⟨⟨h1, hN⟩, h2, h3⟩, h4, h5⟩ K m => ?_
      show numtext_number.p2 N K (numtext_number.l2 N K (m + k)) s (lim v) = _
      unfold numtext_number.p2
      have ej : (min 9 (s.length : Int)) = (j : Int) := by omega
      rw [if_pos (decide_eq_true (by omega)), ej]
      have := number_in (N := N) (fun y0_20 y3_20 y4_20 y5_20 y6_20 => (natural_FromUint64.f N y6_20).bind fun t22 => ((natural_Mul.f N y3_20 t22.1).bind fun t23 => ((natural_FromUint64.f N y5_20).bind fun t24 => ((natural_Add.f N t23.1 t24.1).bind fun t25 => (if (0 : Int) ≤ y4_20 ∧ y4_20 ≤ (y0_20.length : Int) then (numtext_number.l2 N K (m + k) (y0_20.drop ((y4_20 : Int).toNat)) t25.1) else none))))) s ha (lim v) (j : Int) j (by omega) (by omega) j 0 (N - (j + 1)) (by omega)
      rw [show N - (j + 1) + j + 1 = N by omega, List.take_zero] at this
      refine Eq.trans this ?_
      rw [Int.toNat_natCast] at h2 h3
      rw [h2]
      simp only [Option.bind_some]
      rw [h4]
      simp only [Option.bind_some]
      rw [h3]
      simp only [Option.bind_some]
      rw [h5]
      simp only [Option.bind_some]
      rw [if_pos (by omega), i2n, h1 K m, hsp]
theorem number_ok {s : List UInt8} (ha : adB s = true) (hv : Sm (num s 0)) : Ev fun N => numtext_number.f N s = some (lim (num s 0), ()) := by
  obtain ⟨k, hk⟩ := number_out s.length s rfl ha 0 hv
  refine (hk.and (Ev.ge k)).mono fun N ⟨h1, h2⟩ => ?_
  unfold numtext_number.f
  have := h1 (fun y3_25 => some (y3_25, ())) (N - k)
  rw [show N - k + k = N by omega, lim_zero] at this
  exact this
def sgz (b : Bool) (n : Nat) : Int := if b then -(n : Int) else (n : Int)
theorem whole_ok {s : List UInt8} (ha : adB (sgT s).2 = true) (hv : Sm (num (sgT s).2 0)) : Ev fun N => numtext_whole.f N s = some (I (sgz (sgT s).1 (num (sgT s).2 0)), ()) := by
  have nE := inorm_ok (p := ((sgT s).1, lim (num (sgT s).2 0))) hv.lim (by rwa [V_lim])
  refine ((number_ok ha hv).and nE).mono fun N ⟨h1, h2⟩ => ?_
  unfold numtext_whole.f
  rw [sgT_ok]
  simp only [Option.bind_some]
  rw [h1]
  simp only [Option.bind_some]
  rw [h2]
  simp only [Option.bind_some]
  unfold iv sgz
  rw [V_lim]
theorem parseInt_ok {s : List UInt8} (ha : AS s) (hn : s.length < 4611686018427387904) (hnu : nuB s = true) (hc : cnt s ≤ 4096) (hv : Sm (num (sgT s).2 0)) : Ev fun N => numtext_ParseInt.f N s = some (I (sgz (sgT s).1 (num (sgT s).2 0)), 0, ()) := by
  have had : adB (sgT s).2 = true := by
    unfold nuB plB at hnu
    simp only [Bool.and_eq_true] at hnu
    exact hnu.1.1
  refine (((isNumber_ok ha).and (count_ok hn)).and (whole_ok had hv)).mono fun N ⟨⟨h1, h2⟩, h3⟩ => ?_
  unfold numtext_ParseInt.f
  rw [h1, hnu]
  simp only [Option.bind_some, Bool.not_true, Bool.false_eq_true, if_false]
  rw [h2]
  simp only [Option.bind_some]
  rw [if_neg (by rw [decide_eq_true_eq]; omega), h3]
  rfl

/-! ## The text of a number -/
def intT (z : Int) : List UInt8 := (if z < 0 then [45] else []) ++ dig z.natAbs
theorem adB_dig (n : Nat) : adB (dig n) = true := adB_iff.2 fun c hc => dig_in' c hc
theorem sgT_int (z : Int) : sgT (intT z) = (decide (z < 0), dig z.natAbs) := by
  unfold intT
  by_cases h : z < 0
  · rw [if_pos h, decide_eq_true h]; rfl
  · rw [if_neg h, decide_eq_false h, List.nil_append]
    obtain ⟨c, r, e, h1, h2, _⟩ := dig_first z.natAbs
    rw [e]
    unfold sgT
    have : c.toNat ≠ 45 := by omega
    simp only [this, if_false]
theorem nuB_int (z : Int) : nuB (intT z) = true := by
  unfold nuB
  rw [sgT_int]
  obtain ⟨c, r, e, h1, h2, h3, h4⟩ := dig_first z.natAbs
  have hp : plB (dig z.natAbs) = true := by
    unfold plB
    rw [adB_dig, e, Bool.true_and]
    by_cases h0 : z.natAbs = 0
    · have := h3 h0
      injection this with _ hr
      subst hr
      simp
    · simp [h4 h0]
  rw [hp, Bool.true_and]
  dsimp only
  by_cases h : z < 0
  · rw [decide_eq_true h, e]
    have := h4 (by omega)
    simp only [Bool.not_true, Bool.false_or]
    rw [Bool.not_eq_true', beq_eq_false_iff_ne]
    intro h
    injection h with h _
    subst h
    exact this rfl
  · rw [decide_eq_false h]; rfl
theorem AS_int (z : Int) : AS (intT z) := by
  intro c hc
  unfold intT at hc
  rcases List.mem_append.1 hc with h | h
  · split at h
    · rw [List.mem_singleton.1 h]; decide
    · cases h
  · have := dig_in' c h; omega
theorem cnt_int (z : Int) : cnt (intT z) = (dig z.natAbs).length := by
  unfold cnt intT
  rw [List.countP_append]
  have : (dig z.natAbs).countP isD = (dig z.natAbs).length := List.countP_eq_length.2 fun c hc => isD_iff.2 (dig_in' c hc)
  rw [this]
  split <;> simp [isD]
theorem sgz_int (z : Int) : sgz (decide (z < 0)) z.natAbs = z := by
  unfold sgz
  by_cases h : z < 0
  · rw [decide_eq_true h, if_pos rfl]; omega
  · rw [decide_eq_false h, if_neg (by decide)]; omega
theorem parse_int {z : Int} (hz : SmI z) (hc : (dig z.natAbs).length ≤ 4096) : Ev fun N => numtext_ParseInt.f N (intT z) = some (I z, 0, ()) := by
  have := parseInt_ok (s := intT z) (AS_int z) (by
    unfold intT
    rw [List.length_append]
    split <;> simp only [List.length_cons, List.length_nil] <;> omega) (nuB_int z) (by rw [cnt_int]; exact hc) (by rw [sgT_int, num_dig]; exact hz)
  rw [sgT_int] at this
  dsimp only at this
  rw [num_dig, sgz_int] at this
  exact this
end Go.Proofs.YtkadllkeekoopaaGreat.Abs.T
end

section
namespace Go.Proofs.YtkadllkeekoopaaGreat.Abs.T
open Go.Proofs.YtkadllkeekoopaaGreat.Abs.Ints Go.Proofs.YtkadllkeekoopaaGreat.Abs.BN
set_option maxRecDepth 10000

theorem rmake_ok (b : Bool) {a : List Int} (h : L a) (hs : Sm (val a)) : Ev fun N => rf2_Make.f N b a = some (I (sgz b (val a)), ()) := by
  refine (rtrim_ok h hs).mono fun N h1 => ?_
  unfold rf2_Make.f
  rw [h1]
  simp only [Option.bind_some]
  unfold sgz
  rw [← I_eq]
  cases b with
  | true => rw [if_pos rfl, lim_pos_len]; rfl
  | false => rfl
theorem rmake_lim (b : Bool) {n : Nat} (hs : Sm n) : Ev fun N => rf2_Make.f N b (lim n) = some (I (sgz b n), ()) := by
  have := rmake_ok b hs.lim (by rwa [V_lim])
  rwa [V_lim] at this
theorem rnorm_ok {p : Bool × List Int} (h : L p.2) (hs : Sm (val p.2)) : Ev fun N => rf2_Norm.f N p = some (I (iv p), ()) := by
  refine (rmake_ok p.1 h hs).mono fun N h1 => ?_
  unfold rf2_Norm.f
  rw [h1]
  rfl
theorem rfromInt_ok {v : Int} (h0 : -9223372036854775808 ≤ v) (h1 : v < 9223372036854775808) : Ev fun N => rf2_FromInt.f N v = some (I v, ()) := by
  have hs : Sm v.natAbs := Sm.bits (b := 64) (by omega) (by omega)
  by_cases hv : v < 0
  · have fE := rfromU_ok (v := -v) (by omega) (by omega)
    have mE := rmake_lim true hs
    refine (fE.and mE).mono fun N ⟨e, e2⟩ => ?_
    unfold rf2_FromInt.f
    rw [if_pos (decide_eq_true hv), wi (n := v + 1) (by omega) (by omega), wi (n := 0 - (v + 1)) (by omega) (by omega), w64 (n := 0 - (v + 1)) (by omega) (by omega), w64 (by omega) (by omega), show 0 - (v + 1) + 1 = -v by omega, e]
    simp only [Option.bind_some]
    rw [show (-v).toNat = v.natAbs by omega, e2]
    simp only [Option.bind_some]
    unfold sgz
    rw [if_pos rfl, show -((v.natAbs : Nat) : Int) = v by omega]
  · have fE := rfromU_ok (v := v) (by omega) (by omega)
    have mE := rmake_lim false hs
    refine (fE.and mE).mono fun N ⟨e, e2⟩ => ?_
    unfold rf2_FromInt.f
    rw [if_neg (by rw [decide_eq_true_eq]; exact hv), w64 (by omega) (by omega), e]
    simp only [Option.bind_some]
    rw [show v.toNat = v.natAbs by omega, e2]
    simp only [Option.bind_some]
    unfold sgz
    rw [if_neg (by decide), show ((v.natAbs : Nat) : Int) = v by omega]
theorem I_1 (z : Int) : (I z).1 = decide (z < 0) := rfl
theorem I_2 (z : Int) : (I z).2 = lim z.natAbs := rfl
theorem rvalue_ok {v : Int} (h0 : -9223372036854775808 ≤ v) (h1 : v < 9223372036854775808) : Ev fun N => rf2_Value.f N (I v) = some (v, true, ()) := by
  have hs : Sm v.natAbs := Sm.bits (b := 64) (by omega) (by omega)
  have nE := rnorm_ok (p := I v) (by rw [I_2]; exact hs.lim) (by rw [I_2, V_lim]; exact hs)
  have uE := ruint64_ok (a := lim v.natAbs) hs.lim (by rwa [V_lim])
  rw [iv_I] at nE
  rw [V_lim] at uE
  refine (nE.and uE).mono fun N ⟨e1, e2⟩ => ?_
  unfold rf2_Value.f
  rw [e1]
  simp only [Option.bind_some]
  rw [I_2, e2, if_pos (by omega)]
  simp only [Option.bind_some, Bool.not_true, Bool.false_eq_true, if_false]
  rw [I_1]
  unfold rf2_Value.q10000006
  by_cases hv : v < 0
  · rw [if_pos (decide_eq_true hv), if_pos (decide_eq_true (by omega)), w64 (by omega) (by omega), wi (n := ((v.natAbs : Nat) : Int) - 1) (by omega) (by omega), wi (n := 0 - _) (by omega) (by omega), wi (by omega) (by omega), show 0 - (((v.natAbs : Nat) : Int) - 1) - 1 = v by omega]
  · rw [if_neg (by rw [decide_eq_true_eq]; exact hv), if_neg (by decide), I_1, decide_eq_false hv, if_pos (by decide)]
    unfold rf2_Value.q10000008
    rw [if_pos (decide_eq_true (by omega)), wi (by omega) (by omega), show ((v.natAbs : Nat) : Int) = v by omega]
theorem awake_ev : Ev fun N => gridmarketlaw04_awake.f N = some (true, ()) := by
  refine ⟨400, fun N hN => ?_⟩
  obtain ⟨M, rfl⟩ : ∃ M, N = M + 400 := ⟨N - 400, by omega⟩
  have : ∀ M, gridmarketlaw04_awake.f (M + 400) = some (true, ()) := by
    intro M
    kernel_rfl
  exact this M
theorem native_ok {v : Int} (h0 : -9223372036854775808 ≤ v) (h1 : v < 9223372036854775808) : Ev fun N => gridmarketlaw04_NumtextNative.f N v = some (true, ()) := by
  have hs : Sm v.natAbs := Sm.bits (b := 64) (by omega) (by omega)
  have fE := formatInt_ok (p := I v) (by rw [I_2]; exact hs.lim) (by rw [I_2, V_lim]; exact hs)
  rw [iv_I] at fE
  have hd : (dig v.natAbs).length ≤ 4096 := by
    unfold dig
    split
    · decide
    · rw [List.length_map, List.length_reverse]
      have : v.natAbs < 10 ^ 20 := by
        rw [show (10 : Nat) ^ 20 = 100000000000000000000 by decide]
        omega
      have := rd_len 20 _ this
      omega
  refine (((rfromInt_ok h0 h1).and fE).and ((parse_int (z := v) hs hd).and ((rvalue_ok h0 h1).and awake_ev))).mono fun N ⟨⟨e1, e2⟩, e3, e4, e5⟩ => ?_
  unfold gridmarketlaw04_NumtextNative.f
  rw [e1]
  simp only [Option.bind_some]
  rw [e2]
  simp only [Option.bind_some]
  rw [show ((if v < 0 then [45] else []) ++ dig v.natAbs) = intT v from rfl, e3]
  simp only [Option.bind_some]
  rw [e4]
  simp only [Option.bind_some]
  rw [e5]
  simp only [Option.bind_some]
  simp
theorem lit_i64 {v : Int} (h : (Lit.int .i64 v).wf = true) : -9223372036854775808 ≤ v ∧ v < 9223372036854775808 := by
  simp [Lit.wf, IntKind.min, IntKind.max, IntKind.signed, IntKind.bits] at h
  omega
theorem plainNumtextNative (z : slotsX Unit (gridmarketlaw04_NumtextNative.F 0).din.slots) (h : argsGood (gridmarketlaw04_NumtextNative.F 0).din.slots z) : ∃ N, (gridmarketlaw04_NumtextNative.F N).run z = some (true, ()) := by
  obtain ⟨h1, h2⟩ := lit_i64 h.1
  exact (native_ok h1 h2).ex
end Go.Proofs.YtkadllkeekoopaaGreat.Abs.T
end
