import Derived.Test.YtkadllkeekoopaaGreatPlainB
set_option linter.unusedVariables false
set_option linter.unusedSimpArgs false
section
namespace Go.Proofs.YtkadllkeekoopaaGreat.Abs.T
open Go.Proofs.YtkadllkeekoopaaGreat.Abs.Ints Go.Proofs.YtkadllkeekoopaaGreat.Abs.BN
set_option maxRecDepth 10000

theorem rtrim_l (N : Nat) (K : List Int → Int → Option (List Int × Unit)) : ∀ m, rf1_Trim.l2 N K m = natural_view.l2 N K m
  | 0 => rfl
  | m + 1 => by
    show rf1_Trim.p2 N K (rf1_Trim.l2 N K m) = natural_view.p2 N K (natural_view.l2 N K m)
    rw [rtrim_l N K m]
    rfl
theorem rtrim_ok {a : List Int} (h : L a) (hs : Sm (val a)) : Ev fun N => rf1_Trim.f N a = some (lim (val a), ()) := by
  obtain ⟨k, h1, h2, h3, h4⟩ := view_loop a (by have := h.len; omega) a.length (Nat.le_refl _) fun j hj => lout hj
  refine (Ev.ge (a.length + 1)).mono fun N hN => ?_
  unfold rf1_Trim.f
  rw [rtrim_l]
  have := h4 N (fun y0_1 y3_1 => if (0 : Int) ≤ y3_1 ∧ y3_1 ≤ (y0_1.length : Int) then (if (([] : List Int).length + (y0_1.take ((y3_1 : Int).toNat)).length) * 4 ≤ 140737488355328 then (some ((([] : List Int) ++ (y0_1.take ((y3_1 : Int).toNat))), ())) else none) else none) (N - (a.length + 1))
  rw [show N - (a.length + 1) + a.length + 1 = N by omega] at this
  unfold Sm at hs
  rw [this, if_pos (by omega), i2n, take_lim h.u h2 h3, List.length_nil, if_pos (by omega), List.nil_append]
theorem rtrim_lim {n : Nat} (h : Sm n) : Ev fun N => rf1_Trim.f N (lim n) = some (lim n, ()) := by
  have := rtrim_ok h.lim (by rwa [V_lim])
  rwa [V_lim] at this
theorem equal_loop (a b : List Int) (hl : a.length = b.length) (hn : a.length < 4611686018427387904) : ∀ (d i N m : Nat), i + d = a.length → (∀ j, j < i → a.getD j 0 = b.getD j 0) → rf1_Equal.l4 N (fun (_ : Unit) => some (true, ())) (m + d + 1) a b (i : Int) = some (decide (a = b), ())
  | 0, i, N, m, hi, he => by
    show rf1_Equal.p4 N _ (rf1_Equal.l4 N _ (m + 0)) a b (i : Int) = _
    unfold rf1_Equal.p4
    rw [if_neg (by rw [decide_eq_true_eq]; omega), decide_eq_true ?_]
    apply List.ext_getElem hl
    intro j h1 h2
    have := he j (by omega)
    rwa [lin h1, lin h2] at this
  | d + 1, i, N, m, hi, he => by
    show rf1_Equal.p4 N _ (rf1_Equal.l4 N _ (m + (d + 1))) a b (i : Int) = _
    unfold rf1_Equal.p4
    rw [if_pos (decide_eq_true (by omega)), if_pos (by omega), if_pos (by omega), i2n]
    by_cases h : a.getD i 0 = b.getD i 0
    · rw [if_neg (by simp only [h]; simp), wi (by omega) (by omega), cast1]
      exact equal_loop a b hl hn d (i + 1) N m (by omega) fun j hj => by
        rcases Nat.eq_or_lt_of_le (Nat.le_of_lt_succ hj) with rfl | h'
        · exact h
        · exact he j h'
    · rw [if_pos (by rw [decide_eq_false h]; rfl), decide_eq_false ?_]
      rintro rfl
      exact h rfl
theorem requal_ok {a b : List Int} (hn : a.length < 4611686018427387904) : Ev fun N => rf1_Equal.f N a b = some (decide (a = b), ()) := by
  refine (Ev.ge (a.length + 1)).mono fun N hN => ?_
  unfold rf1_Equal.f
  by_cases hl : a.length = b.length
  · rw [if_neg (by simp [hl])]
    have := equal_loop a b hl hn a.length 0 N (N - (a.length + 1)) (by omega) fun j hj => by omega
    rw [show N - (a.length + 1) + a.length + 1 = N by omega] at this
    exact this
  · rw [if_pos (by simp; omega), decide_eq_false (fun h => hl (by rw [h]))]
theorem rfromU_ok {v : Int} (h0 : 0 ≤ v) (h1 : v < 18446744073709551616) : Ev fun N => rf1_FromUint64.f N v = some (lim v.toNat, ()) := by
  obtain ⟨hu, hv⟩ := two_limbs h0 h1
  refine (rtrim_ok ⟨hu, by simp⟩ ?_).mono fun N h => ?_
  · rw [hv]
    have : v.toNat < 18446744073709551616 := by omega
    have := lim_len2.2 this
    unfold Sm; omega
  unfold rf1_FromUint64.f
  rw [h, hv]
  rfl
theorem ruint_loop {a : List Int} (ha : U a) (hl : a.length ≤ 2) : ∀ (i : Nat) (N m : Nat) (K : Int → Option (Int × Bool × Unit)), i ≤ a.length →
    rf1_Uint64.l6 N K (m + i + 1) ((val (a.drop i) : Nat) : Int) ((i : Int) - 1) a = K ((val a : Nat) : Int)
  | 0, N, m, K, hi => by
    show rf1_Uint64.p6 N K (rf1_Uint64.l6 N K (m + 0)) _ (((0 : Nat) : Int) - 1) a = _
    unfold rf1_Uint64.p6
    rw [if_neg (by simp), List.drop_zero]
  | i + 1, N, m, K, hi => by
    show rf1_Uint64.p6 N K (rf1_Uint64.l6 N K (m + (i + 1))) _ (((i + 1 : Nat) : Int) - 1) a = _
    have e1 : ((i + 1 : Nat) : Int) - 1 = (i : Int) := by omega
    obtain ⟨x, hx, hx2⟩ := at_nat ha i
    have hd := V_drop a i (by omega)
    rw [hx, Int.toNat_natCast] at hd
    have hs : val (a.drop (i + 1)) < 4294967296 := by
      have h1 := V_lt (ha.drop (i + 1))
      have h2 : 4294967296 ^ (a.drop (i + 1)).length ≤ 4294967296 ^ 1 := le_pow (by rw [List.length_drop]; omega)
      rw [Nat.pow_one] at h2
      omega
    unfold rf1_Uint64.p6
    rw [e1, if_pos (decide_eq_true (by omega)), if_pos (by omega), i2n, hx, p32]
    generalize val (a.drop (i + 1)) = y at *
    rw [w64 (n := (y : Int) * 4294967296) (by omega) (by omega), w64 (n := (x : Int)) (by omega) (by omega), or64 (by omega) (by omega) (by omega) (by omega) (by omega), wi (by omega) (by omega)]
    have := ruint_loop ha hl i N m K (by omega)
    rw [hd] at this
    rw [show (y : Int) * 4294967296 + (x : Int) = ((x + 4294967296 * y : Nat) : Int) by omega]
    exact this
theorem ruint64_ok {a : List Int} (h : L a) (hs : Sm (val a)) : Ev fun N => rf1_Uint64.f N a = if val a < 18446744073709551616 then some (((val a : Nat) : Int), true, ()) else some (0, false, ()) := by
  refine ((rtrim_ok h hs).and (Ev.ge 3)).mono fun N ⟨h1, h2⟩ => ?_
  unfold rf1_Uint64.f
  rw [h1]
  simp only [Option.bind_some]
  by_cases hs : val a < 18446744073709551616
  · have hl := lim_len2.2 hs
    rw [if_neg (by rw [decide_eq_true_eq]; omega), if_pos hs, wi (by omega) (by omega)]
    have := ruint_loop (U_lim (val a)) hl (lim (val a)).length N (N - ((lim (val a)).length + 1)) (fun y4_2 => some (y4_2, true, ())) (Nat.le_refl _)
    rw [List.drop_length, show N - ((lim (val a)).length + 1) + (lim (val a)).length + 1 = N by omega, V_lim] at this
    exact this
  · have hl : ¬ (lim (val a)).length ≤ 2 := fun h => hs (lim_len2.1 h)
    rw [if_pos (decide_eq_true (by omega)), if_neg hs]
theorem rcompare_loop {a b : List Int} (ha : U a) (hb : U b) (hl : a.length = b.length) (hn : a.length < 4611686018427387904) : ∀ (i : Nat), i ≤ a.length → val (a.drop i) = val (b.drop i) → ∀ N m,
    rf1_Compare.l7 N (fun (_ : Unit) => some (0, ())) (m + i + 1) ((i : Int) - 1) a b = some (cmpN (val a) (val b), ())
  | 0, hi, he, N, m => by
    show rf1_Compare.p7 N _ (rf1_Compare.l7 N _ (m + 0)) (((0 : Nat) : Int) - 1) a b = _
    unfold rf1_Compare.p7
    rw [if_neg (by simp)]
    simp only [List.drop_zero] at he
    unfold cmpN
    rw [he, if_neg (by omega), if_pos rfl]
  | i + 1, hi, he, N, m => by
    show rf1_Compare.p7 N _ (rf1_Compare.l7 N _ (m + (i + 1))) (((i + 1 : Nat) : Int) - 1) a b = _
    have e1 : ((i + 1 : Nat) : Int) - 1 = (i : Int) := by omega
    rw [e1]
    unfold rf1_Compare.p7
    rw [if_pos (decide_eq_true (by omega)), if_pos (by omega), if_pos (by omega), i2n]
    have sa := V_split a (i + 1) hi
    have sb := V_split b (i + 1) (by omega)
    rw [V_succ] at sa sb
    have ta := V_take_lt ha i
    have tb := V_take_lt hb i
    have ia := ha.at i
    have ib := hb.at i
    have da := V_drop a i (by omega)
    have db := V_drop b i (by omega)
    generalize a.getD i 0 = x at *
    generalize b.getD i 0 = y at *
    by_cases hlt : x < y
    · rw [if_pos (decide_eq_true hlt)]
      rw [he] at sa
      unfold cmpN
      rw [if_pos ?_]
      have : (x.toNat + 1) * 4294967296 ^ i ≤ y.toNat * 4294967296 ^ i := Nat.mul_le_mul_right _ (by omega)
      rw [Nat.add_mul] at this
      omega
    · rw [if_neg (by rw [decide_eq_true_eq]; exact hlt), if_pos (by omega), if_pos (by omega)]
      by_cases hgt : y < x
      · rw [if_pos (decide_eq_true hgt)]
        rw [he] at sa
        have : (y.toNat + 1) * 4294967296 ^ i ≤ x.toNat * 4294967296 ^ i := Nat.mul_le_mul_right _ (by omega)
        rw [Nat.add_mul] at this
        unfold cmpN
        rw [if_neg (by omega), if_neg (by omega)]
      · have hxy : x = y := by omega
        subst hxy
        rw [if_neg (by rw [decide_eq_true_eq]; exact hgt), wi (by omega) (by omega)]
        exact rcompare_loop ha hb hl hn i (by omega) (by rw [da, db, he]) N m
theorem rcompare_ok {a b : List Int} (ha : L a) (hb : L b) (sa : Sm (val a)) (sb : Sm (val b)) : Ev fun N => rf1_Compare.f N a b = some (cmpN (val a) (val b), ()) := by
  refine (((rtrim_ok ha sa).and (rtrim_ok hb sb)).and (Ev.ge ((lim (val a)).length + 1))).mono fun N ⟨⟨h1, h2⟩, h3⟩ => ?_
  unfold Sm at sa sb
  unfold rf1_Compare.f
  rw [h1, h2]
  simp only [Option.bind_some]
  by_cases hl : (lim (val a)).length = (lim (val b)).length
  · rw [if_neg (by simp [hl]), wi (by omega) (by omega)]
    have := rcompare_loop (U_lim (val a)) (U_lim (val b)) hl (by omega) (lim (val a)).length (Nat.le_refl _) (by rw [List.drop_length, hl, List.drop_length]) N (N - ((lim (val a)).length + 1))
    rw [show N - ((lim (val a)).length + 1) + (lim (val a)).length + 1 = N by omega] at this
    rw [this, V_lim, V_lim]
  · rw [if_pos (by simp; omega)]
    unfold cmpN
    by_cases hlt : (lim (val a)).length < (lim (val b)).length
    · rw [if_pos (decide_eq_true (by omega)), if_pos (cmp_len hlt)]
    · rw [if_neg (by rw [decide_eq_true_eq]; omega)]
      have := cmp_len (a := val b) (b := val a) (by omega)
      rw [if_neg (by omega), if_neg (by omega)]
end Go.Proofs.YtkadllkeekoopaaGreat.Abs.T
end

section
namespace Go.Proofs.YtkadllkeekoopaaGreat.Abs.T
open Go.Proofs.YtkadllkeekoopaaGreat.Abs.Ints Go.Proofs.YtkadllkeekoopaaGreat.Abs.BN
set_option maxRecDepth 10000

theorem rtrim_ok' {a : List Int} (hu : U a) (hl : a.length < 4611686018427387904) (hs : Sm (val a)) : Ev fun N => rf1_Trim.f N a = some (lim (val a), ()) := by
  obtain ⟨k, h1, h2, h3, h4⟩ := view_loop a hl a.length (Nat.le_refl _) fun j hj => lout hj
  refine (Ev.ge (a.length + 1)).mono fun N hN => ?_
  unfold rf1_Trim.f
  rw [rtrim_l]
  have := h4 N (fun y0_1 y3_1 => if (0 : Int) ≤ y3_1 ∧ y3_1 ≤ (y0_1.length : Int) then (if (([] : List Int).length + (y0_1.take ((y3_1 : Int).toNat)).length) * 4 ≤ 140737488355328 then (some ((([] : List Int) ++ (y0_1.take ((y3_1 : Int).toNat))), ())) else none) else none) (N - (a.length + 1))
  rw [show N - (a.length + 1) + a.length + 1 = N by omega] at this
  unfold Sm at hs
  rw [this, if_pos (by omega), i2n, take_lim hu h2 h3, List.length_nil, if_pos (by omega), List.nil_append]

theorem val_inj {x : List Int} : ∀ {y : List Int}, U x → U y → x.length = y.length → val x = val y → x = y := by
  induction x with
  | nil => intro y _ _ h _; cases y with
    | nil => rfl
    | cons => cases h
  | cons u x ih =>
    intro y hx hy hl hv
    cases y with
    | nil => cases hl
    | cons v y =>
      have h1 := hx u (List.mem_cons_self ..)
      have h2 := hy v (List.mem_cons_self ..)
      have hv : u.toNat + 4294967296 * val x = v.toNat + 4294967296 * val y := hv
      have hl : x.length = y.length := by simpa using hl
      rw [ih (fun z hz => hx z (List.mem_cons_of_mem _ hz)) (fun z hz => hy z (List.mem_cons_of_mem _ hz)) hl (by omega), show u = v by omega]

/-! ## Add -/
theorem radd_q10 {N : Nat} (Kend : List Int → List Int → Int → Int → List Int → Option (List Int × Unit)) (a b r : List Int) {s i : Nat} (hi : i < r.length) :
    rf1_Add.q10 N Kend a b (s : Int) (i : Int) r = Kend a b ((s / 4294967296 : Nat) : Int) (i : Int) (r.set i ((s % 4294967296 : Nat) : Int)) := by
  unfold rf1_Add.q10
  rw [if_pos (by omega), i2n, p32, w32m]
  rfl
theorem radd_q8 {N : Nat} (Kend : List Int → List Int → Int → Int → List Int → Option (List Int × Unit)) (a r : List Int) {b : List Int} (hb : U b) {s i : Nat} (hs : s < 8589934592) (hi : i < r.length) :
    rf1_Add.q8 N Kend a b (s : Int) (i : Int) r = Kend a b (((s + (b.getD i 0).toNat) / 4294967296 : Nat) : Int) (i : Int) (r.set i (((s + (b.getD i 0).toNat) % 4294967296 : Nat) : Int)) := by
  unfold rf1_Add.q8
  by_cases h : i < b.length
  · obtain ⟨y, hy, hy2⟩ := at_nat hb i
    rw [if_pos (decide_eq_true (by omega)), if_pos (by omega), i2n, hy, w64 (n := (y : Int)) (by omega) (by omega), w64 (by omega) (by omega), Int.toNat_natCast]
    exact radd_q10 _ a b r hi
  · rw [if_neg (by rw [decide_eq_true_eq]; omega), lout (by omega), show (0 : Int).toNat = 0 from rfl, Nat.add_zero]
    exact radd_q10 _ a b r hi
theorem radd_loop {N : Nat} (K : List Int → Option (List Int × Unit)) {a b : List Int} (ha : U a) (hb : U b) (n : Nat) (hn : n < 4611686018427387904) : ∀ (d i m c : Nat) (r : List Int), i + d = n → r.length = n → U r → c ≤ 1 → val (r.take i) + c * 4294967296 ^ i = val (a.take i) + val (b.take i) →
    ∃ r' c', U r' ∧ r'.length = n ∧ c' ≤ 1 ∧ val r' + c' * 4294967296 ^ n = val (a.take n) + val (b.take n) ∧ rf1_Add.l4 N K (m + d + 1) a b (c : Int) (i : Int) r = K r'
  | 0, i, m, c, r, hi, hl, hu, hc, hv => by
    have : i = n := by omega
    subst this
    refine ⟨r, c, hu, hl, hc, by rw [V_all (Nat.le_of_eq hl)] at hv; exact hv, ?_⟩
    show rf1_Add.p4 N K (rf1_Add.l4 N K (m + 0)) a b _ (i : Int) r = _
    unfold rf1_Add.p4
    rw [if_neg (by rw [decide_eq_true_eq]; omega)]
  | d + 1, i, m, c, r, hi, hl, hu, hc, hv => by
    show ∃ r' c', _ ∧ _ ∧ _ ∧ _ ∧ rf1_Add.p4 N K (rf1_Add.l4 N K (m + (d + 1))) a b _ (i : Int) r = _
    obtain ⟨x, hx, hx2⟩ := at_nat ha i
    obtain ⟨y, hy, hy2⟩ := at_nat hb i
    have sa := V_succ a i
    have sb := V_succ b i
    rw [hx, Int.toNat_natCast] at sa
    rw [hy, Int.toNat_natCast] at sb
    have hmod : (c + x + y) % 4294967296 < 4294967296 := Nat.mod_lt _ (by omega)
    have hdm := Nat.div_add_mod (c + x + y) 4294967296
    have hd1 : (c + x + y) / 4294967296 ≤ 1 := by omega
    obtain ⟨r', c', k1, k2, k3, k4, k5⟩ := radd_loop (N := N) K ha hb n hn d (i + 1) m ((c + x + y) / 4294967296) (r.set i (((c + x + y) % 4294967296 : Nat) : Int)) (by omega) (by rw [List.length_set]; exact hl) (hu.set (by omega) (by omega)) hd1 (by
      rw [V_set (by omega), Int.toNat_natCast, sa, sb, Nat.pow_succ]
      generalize (c + x + y) % 4294967296 = M at *
      generalize (c + x + y) / 4294967296 = D at *
      generalize 4294967296 ^ i = P at *
      have e : c * P + x * P + y * P = M * P + D * (P * 4294967296) := by
        rw [← Nat.add_mul, ← Nat.add_mul, ← hdm, Nat.add_mul, Nat.mul_comm P 4294967296, ← Nat.mul_assoc, Nat.mul_comm D]
        omega
      omega)
    refine ⟨r', c', k1, k2, k3, k4, ?_⟩
    unfold rf1_Add.p4
    rw [if_pos (decide_eq_true (by omega))]
    have fin : rf1_Add.q8 N (fun y0_21 y1_21 y6_21 y7_21 yr5_21 => rf1_Add.q5 N (fun y0_22 y1_22 y6_22 y7_22 yr5_22 => rf1_Add.l4 N K (m + (d + 1)) y0_22 y1_22 y6_22 y7_22 yr5_22) y0_21 y1_21 y6_21 y7_21 yr5_21) a b ((c + x : Nat) : Int) (i : Int) r = K r' := by
      rw [radd_q8 _ a r hb (s := c + x) (by omega) (by omega), hy, Int.toNat_natCast]
      unfold rf1_Add.q5
      rw [wi (by omega) (by omega), cast1]
      exact k5
    by_cases h : i < a.length
    · rw [if_pos (decide_eq_true (by omega)), if_pos (by omega), i2n, hx, w64 (n := (x : Int)) (by omega) (by omega), w64 (by omega) (by omega)]
      exact fin
    · have : x = 0 := by
        have := lout (a := a) (i := i) (by omega)
        omega
      subst this
      rw [if_neg (by rw [decide_eq_true_eq]; omega)]
      exact fin
theorem radd_ok {a b : List Int} (ha : L a) (hb : L b) (hs : Sm (val a + val b)) : Ev fun N => rf1_Add.f N a b = some (lim (val a + val b), ()) := by
  have la := ha.len
  have lb := hb.len
  obtain ⟨n, hn⟩ : ∃ n, n = max a.length b.length + 1 := ⟨_, rfl⟩
  have key : ∀ (N m : Nat) (K : List Int → Option (List Int × Unit)), ∃ r', U r' ∧ r'.length = n ∧ val r' = val a + val b ∧ rf1_Add.l4 N K (m + n + 1) a b 0 0 (List.replicate n 0) = K r' := fun N m K => by
    obtain ⟨r', c', k1, k2, k3, k4, k5⟩ := radd_loop (N := N) K ha.u hb.u n (by omega) n 0 m 0 (List.replicate n 0) (by omega) (by simp) (U.rep n) (by omega) (by simp [val])
    rw [V_all (by omega), V_all (by omega)] at k4
    have h1 := V_lt ha.u
    have h2 := V_lt hb.u
    have p1 : 4294967296 ^ a.length ≤ 4294967296 ^ (n - 1) := le_pow (by omega)
    have p2 : 4294967296 ^ b.length ≤ 4294967296 ^ (n - 1) := le_pow (by omega)
    have p3 : 4294967296 ^ n = 4294967296 ^ (n - 1) * 4294967296 := by rw [← Nat.pow_succ]; congr 1; omega
    refine ⟨r', k1, k2, ?_, k5⟩
    rcases Nat.eq_zero_or_pos c' with h0 | h0
    · subst h0; omega
    · have : c' = 1 := by omega
      subst this
      generalize 4294967296 ^ (n - 1) = P at *
      omega
  have tE : ∀ r', U r' → r'.length = n → val r' = val a + val b → Ev fun N => rf1_Trim.f N r' = some (lim (val a + val b), ()) := fun r' h1 h2 h3 => by
    have := rtrim_ok' h1 (by omega) (by rw [h3]; exact hs)
    rwa [h3] at this
  obtain ⟨r0, q1, q2, q3, q4⟩ := key 0 0 (fun r => some (r, ()))
  have uniq : ∀ r', U r' → r'.length = n → val r' = val a + val b → r' = r0 := fun r' h1 h2 h3 => val_inj h1 q1 (by omega) (by omega)
  refine ((tE r0 q1 q2 q3).and (Ev.ge (n + 1))).mono fun N ⟨h1, h2⟩ => ?_
  unfold rf1_Add.f
  have em : IntKind.wrap .i64 ((max (a.length : Int) (b.length : Int)) + 1) = (n : Int) := by rw [wi (by omega) (by omega)]; omega
  rw [em, if_pos (by omega), i2n]
  obtain ⟨r', k1, k2, k3, k4⟩ := key N (N - (n + 1)) (fun yr5_25 => (rf1_Trim.f N yr5_25).bind fun t27 => (some (t27.1, ())))
  rw [show N - (n + 1) + n + 1 = N by omega] at k4
  rw [k4, uniq r' k1 k2 k3, h1]
  rfl

/-! ## Sub -/
theorem rsub_q12 {N : Nat} (Kend : Int → Int → List Int → List Int → List Int → Option (Bool × List Int × Unit)) {a : List Int} (ha : U a) (b r : List Int) {t i : Nat} (ht : t ≤ 4294967296) (hi : i < a.length) (hr : i < r.length) :
    rf1_Sub.q12 N Kend (i : Int) (t : Int) a b r = Kend (if (a.getD i 0).toNat < t then 1 else 0) (i : Int) a b (r.set i ((((a.getD i 0).toNat + 4294967296 - t) % 4294967296 : Nat) : Int)) := by
  obtain ⟨x, hx, hx2⟩ := at_nat ha i
  unfold rf1_Sub.q12 rf1_Sub.q17
  rw [if_pos (by omega), i2n, hx, w64 (n := (x : Int)) (by omega) (by omega), Int.toNat_natCast]
  by_cases h : x < t
  · rw [if_pos (decide_eq_true (by omega)), if_pos (by omega), if_pos h, w64 (n := (x : Int) + 4294967296) (by omega) (by omega), w64 (by omega) (by omega), w32m, show (x : Int) + 4294967296 - (t : Int) = ((x + 4294967296 - t : Nat) : Int) by omega]
    rfl
  · rw [if_neg (by rw [decide_eq_true_eq]; omega), if_pos (by omega), if_neg h, w64 (by omega) (by omega), w32m, show x + 4294967296 - t = (x - t) + 4294967296 by omega, Nat.add_mod_right, show (x : Int) - (t : Int) = ((x - t : Nat) : Int) by omega]
    rfl
theorem rsub_loop {N : Nat} (K : List Int → Option (Bool × List Int × Unit)) {a b : List Int} (ha : U a) (hb : U b) (hn : a.length < 4611686018427387904) : ∀ (d i m c : Nat) (r : List Int), i + d = a.length → r.length = a.length → U r → c ≤ 1 → val (r.take i) + val (b.take i) = val (a.take i) + c * 4294967296 ^ i →
    ∃ r' c', U r' ∧ r'.length = a.length ∧ c' ≤ 1 ∧ val r' + val (b.take a.length) = val a + c' * 4294967296 ^ a.length ∧ rf1_Sub.l7 N K (m + d + 1) (c : Int) (i : Int) a b r = K r'
  | 0, i, m, c, r, hi, hl, hu, hc, hv => by
    have : i = a.length := by omega
    subst this
    refine ⟨r, c, hu, hl, hc, by rw [V_all (Nat.le_of_eq hl), V_all (Nat.le_refl _)] at hv; exact hv, ?_⟩
    show rf1_Sub.p7 N K (rf1_Sub.l7 N K (m + 0)) _ _ a b r = _
    unfold rf1_Sub.p7
    rw [if_neg (by rw [decide_eq_true_eq]; omega)]
  | d + 1, i, m, c, r, hi, hl, hu, hc, hv => by
    show ∃ r' c', _ ∧ _ ∧ _ ∧ _ ∧ rf1_Sub.p7 N K (rf1_Sub.l7 N K (m + (d + 1))) _ _ a b r = _
    obtain ⟨x, hx, hx2⟩ := at_nat ha i
    obtain ⟨y, hy, hy2⟩ := at_nat hb i
    have sa := V_succ a i
    have sb := V_succ b i
    rw [hx, Int.toNat_natCast] at sa
    rw [hy, Int.toNat_natCast] at sb
    have hmod : (x + 4294967296 - (c + y)) % 4294967296 < 4294967296 := Nat.mod_lt _ (by omega)
    have hdig : (x + 4294967296 - (c + y)) % 4294967296 + (c + y) = x + (if x < c + y then 1 else 0) * 4294967296 := by
      split <;> omega
    obtain ⟨c1, hc1⟩ : ∃ c1, c1 = if x < c + y then 1 else 0 := ⟨_, rfl⟩
    rw [← hc1] at hdig
    have hc2 : c1 ≤ 1 := by rw [hc1]; split <;> omega
    obtain ⟨r', c', k1, k2, k3, k4, k5⟩ := rsub_loop (N := N) K ha hb hn d (i + 1) m c1 (r.set i (((x + 4294967296 - (c + y)) % 4294967296 : Nat) : Int)) (by omega) (by rw [List.length_set]; exact hl) (hu.set (by omega) (by omega)) hc2 (by
      rw [V_set (by omega), Int.toNat_natCast, sa, sb, Nat.pow_succ]
      generalize (x + 4294967296 - (c + y)) % 4294967296 = M at *
      generalize 4294967296 ^ i = P at *
      have e : M * P + (c * P + y * P) = x * P + c1 * (P * 4294967296) := by
        rw [← Nat.add_mul, ← Nat.add_mul, hdig, Nat.add_mul, Nat.mul_comm P 4294967296, ← Nat.mul_assoc]
      omega)
    refine ⟨r', c', k1, k2, k3, k4, ?_⟩
    unfold rf1_Sub.p7
    rw [if_pos (decide_eq_true (by omega))]
    have fin : rf1_Sub.q12 N (fun y7_25 y8_25 yr0_25 yr1_25 yr6_25 => rf1_Sub.q8 N (fun y7_26 y8_26 yr0_26 yr1_26 yr6_26 => rf1_Sub.l7 N K (m + (d + 1)) y7_26 y8_26 yr0_26 yr1_26 yr6_26) y7_25 y8_25 yr0_25 yr1_25 yr6_25) (i : Int) ((c + y : Nat) : Int) a b r = K r' := by
      rw [rsub_q12 _ ha b r (t := c + y) (by omega) (by omega) (by omega), hx, Int.toNat_natCast]
      unfold rf1_Sub.q8
      rw [wi (by omega) (by omega), cast1, show (if x < c + y then (1 : Int) else 0) = ((c1 : Nat) : Int) by rw [hc1]; split <;> rfl]
      exact k5
    by_cases h : i < b.length
    · rw [if_pos (decide_eq_true (by omega)), if_pos (by omega), i2n, hy, w64 (n := (y : Int)) (by omega) (by omega), w64 (by omega) (by omega)]
      exact fin
    · have : y = 0 := by
        have := lout (a := b) (i := i) (by omega)
        omega
      subst this
      rw [if_neg (by rw [decide_eq_true_eq]; omega)]
      exact fin
theorem rsub_ok {a b : List Int} (ha : L a) (hb : L b) (sa : Sm (val a)) (sb : Sm (val b)) : Ev fun N => rf1_Sub.f N a b = if val a < val b then some (false, [], ()) else some (true, lim (val a - val b), ()) := by
  by_cases hlt : val a < val b
  · refine (rcompare_ok ha hb sa sb).mono fun N h1 => ?_
    unfold rf1_Sub.f
    rw [h1, if_pos hlt]
    simp only [Option.bind_some]
    unfold cmpN
    rw [if_pos hlt]
    rfl
  · have hsm : Sm (val a - val b) := sa.mono (by omega)
    have la : (lim (val a)).length ≤ 1099511627776 := sa
    have key : ∀ (N m : Nat) (K : List Int → Option (Bool × List Int × Unit)), ∃ r', U r' ∧ r'.length = (lim (val a)).length ∧ val r' = val a - val b ∧ rf1_Sub.l7 N K (m + (lim (val a)).length + 1) 0 0 (lim (val a)) (lim (val b)) (List.replicate (lim (val a)).length 0) = K r' := fun N m K => by
      obtain ⟨r', c', k1, k2, k3, k4, k5⟩ := rsub_loop (N := N) K (U_lim (val a)) (U_lim (val b)) (by omega) (lim (val a)).length 0 m 0 (List.replicate (lim (val a)).length 0) (by omega) (by simp) (U.rep _) (by omega) (by simp [val])
      have lb := lim_len_mono (a := val b) (b := val a) (by omega)
      rw [V_all lb, V_lim, V_lim] at k4
      refine ⟨r', k1, k2, ?_, k5⟩
      have h1 := V_lt k1
      rw [k2] at h1
      have h2 := lim_lt_pow (val a)
      rcases Nat.eq_zero_or_pos c' with h0 | h0
      · subst h0; omega
      · have : c' = 1 := by omega
        subst this
        generalize 4294967296 ^ (lim (val a)).length = P at *
        omega
    obtain ⟨r0, q1, q2, q3, q4⟩ := key 0 0 (fun r => some (true, r, ()))
    have tE := rtrim_ok' q1 (by omega) (by rw [q3]; exact hsm)
    rw [q3] at tE
    refine (((rcompare_ok ha hb sa sb).and ((rtrim_ok ha sa).and (rtrim_ok hb sb))).and (tE.and (Ev.ge ((lim (val a)).length + 1)))).mono fun N ⟨⟨h1, h2, h3⟩, h4, h5⟩ => ?_
    unfold rf1_Sub.f
    rw [h1, if_neg hlt]
    simp only [Option.bind_some]
    rw [if_neg (by unfold cmpN; rw [if_neg hlt]; split <;> decide), h2]
    simp only [Option.bind_some]
    rw [h3]
    simp only [Option.bind_some]
    rw [if_pos (by omega), i2n]
    obtain ⟨r', k1, k2, k3, k4⟩ := key N (N - ((lim (val a)).length + 1)) (fun yr6_29 => (rf1_Trim.f N yr6_29).bind fun t31 => (some (true, t31.1, ())))
    rw [show N - ((lim (val a)).length + 1) + (lim (val a)).length + 1 = N by omega] at k4
    rw [k4, val_inj k1 q1 (by omega) (by omega), h4]
    rfl
end Go.Proofs.YtkadllkeekoopaaGreat.Abs.T
end

section
namespace Go.Proofs.YtkadllkeekoopaaGreat.Abs.T
open Go.Proofs.YtkadllkeekoopaaGreat.Abs.Ints Go.Proofs.YtkadllkeekoopaaGreat.Abs.BN
set_option maxRecDepth 10000

/-! ## Bits, bit -/
theorem bl_half {x : Nat} (h : 0 < x) : bl x = bl (x / 2) + 1 := by
  by_cases h1 : x / 2 = 0
  · have : x = 1 := by omega
    subst this
    rw [show 1 / 2 = 0 from rfl, bl_zero]
    exact bl_uniq (k := 0) (by omega) (by omega)
  · have := bl_shift (n := x) (k := 1) (by rw [Nat.pow_one]; omega)
    rwa [Nat.pow_one] at this
theorem rbits_loop {N : Nat} (K : Int → Option (Int × Unit)) : ∀ (x : Nat), x < 4294967296 → ∀ (c m : Nat), c + bl x < 4611686018427387904 → rf1_Bits.l6 N K (m + bl x + 1) (c : Int) (x : Int) = K ((c + bl x : Nat) : Int) := by
  intro x
  induction x using Nat.strongRecOn with
  | ind x ih =>
    intro hx c m hc
    by_cases h0 : x = 0
    · subst h0
      rw [bl_zero]
      show rf1_Bits.p6 N K (rf1_Bits.l6 N K (m + 0)) _ _ = _
      unfold rf1_Bits.p6
      rw [if_neg (by simp)]
      rfl
    · rw [bl_half (by omega)] at hc ⊢
      show rf1_Bits.p6 N K (rf1_Bits.l6 N K (m + (bl (x / 2) + 1))) _ _ = _
      unfold rf1_Bits.p6
      rw [if_pos (decide_eq_true (by omega)), wi (by omega) (by omega), cast1, show (x : Int) / 2 = ((x / 2 : Nat) : Int) from rfl]
      rw [show m + (bl (x / 2) + 1) = m + bl (x / 2) + 1 from rfl, ih (x / 2) (by omega) (by omega) (c + 1) m (by omega)]
      congr 2; omega
theorem rbits_ok {a : List Int} (ha : L a) (sa : Sm (val a)) : Ev fun N => rf1_Bits.f N a = some (((bl (val a) : Nat) : Int), ()) := by
  refine ((rtrim_ok ha sa).and (Ev.ge 40)).mono fun N ⟨h1, h2⟩ => ?_
  unfold rf1_Bits.f
  rw [h1]
  simp only [Option.bind_some]
  have la : (lim (val a)).length ≤ 1099511627776 := sa
  rcases Nat.eq_zero_or_pos (val a) with h0 | h0
  · rw [h0, bl_zero, if_pos (by rw [lim_zero]; rfl)]
    rfl
  · obtain ⟨hb, hl⟩ := bl_lim h0
    rw [if_neg (by rw [decide_eq_true_eq]; omega), wi (n := ((lim (val a)).length : Int) - 1) (by omega) (by omega), if_pos (by omega)]
    have e1 : (((lim (val a)).length : Int) - 1).toNat = (lim (val a)).length - 1 := by omega
    obtain ⟨t, ht, ht2⟩ := at_nat (U_lim (val a)) ((lim (val a)).length - 1)
    rw [e1, ht]
    rw [ht, Int.toNat_natCast] at hb
    have e2 : (32 : Int) * (((lim (val a)).length : Int) - 1) = ((32 * ((lim (val a)).length - 1) : Nat) : Int) := by omega
    have hbl : bl t ≤ 32 := bl_le (by simpa using ht2)
    rw [e2, wi (by omega) (by omega)]
    have := rbits_loop (N := N) (fun y3_2 => some (y3_2, ())) t ht2 (32 * ((lim (val a)).length - 1)) (N - (bl t + 1)) (by omega)
    rw [show N - (bl t + 1) + bl t + 1 = N by omega] at this
    rw [this, hb]
theorem rbit_ok {N : Nat} {a : List Int} (ha : U a) {i : Nat} (hi : i < 4611686018427387904) : rf1_bit.f N a (i : Int) = some (((val a / 2 ^ i % 2 : Nat) : Int), ()) := by
  have hb := bit_val ha i
  have e1 : Int.tdiv (i : Int) 32 = ((i / 32 : Nat) : Int) := rfl
  have e2 : Int.tmod (i : Int) 32 = ((i % 32 : Nat) : Int) := rfl
  have hm : i % 32 < 32 := Nat.mod_lt _ (by omega)
  have hd : i / 32 ≤ i := Nat.div_le_self ..
  unfold rf1_bit.f
  rw [e1, e2]
  generalize i / 32 = p at *
  generalize i % 32 = s at *
  rw [wi (n := (p : Int)) (by omega) (by omega), w64 (n := (s : Int)) (by omega) (by omega)]
  by_cases h : p < a.length
  · rw [if_neg (by rw [decide_eq_true_eq]; omega), if_pos (by omega), if_neg (by omega), i2n, i2n, Nat.min_eq_left (by omega)]
    obtain ⟨x, hx, hx2⟩ := at_nat ha p
    rw [hx, Int.toNat_natCast] at hb
    rw [hx]
    have e3 : (x : Int) / 2 ^ s = ((x / 2 ^ s : Nat) : Int) := by
      rw [show ((2 : Int) ^ s) = ((2 ^ s : Nat) : Int) by simp]
      rfl
    have hx3 : x / 2 ^ s < 4294967296 := Nat.lt_of_le_of_lt (Nat.div_le_self ..) hx2
    rw [e3, ← hb]
    generalize x / 2 ^ s = y at *
    have : Go.bits .and .u32 (y : Int) 1 = ((y % 2 : Nat) : Int) := by
      rw [show (1 : Int) = ((1 : Nat) : Int) from rfl, and_u32 y 1 hx3 (by omega), Nat.and_one_is_mod]
    rw [this]
  · rw [if_pos (decide_eq_true (by omega))]
    have := lout (a := a) (i := p) (by omega)
    rw [this, show (0 : Int).toNat = 0 from rfl, Nat.zero_div] at hb
    rw [← hb]
    rfl

/-! ## DivMod -/
theorem rdiv_q15 {N : Nat} (Kend : List Int → Int → List Int → List Int → List Int → Option (Bool × List Int × List Int × Unit)) (a : List Int) {i r2 b Q : Nat} {q : List Int}
    (hu : U q) (hi : i / 32 < q.length) (hq : val q = Q * 2 ^ (i + 1)) (hi2 : i < 4611686018427387904)
    (hS : rf1_Sub.f N (lim r2) (lim b) = if r2 < b then some (false, [], ()) else some (true, lim (r2 - b), ())) (hlt : r2 < 2 * b) :
    ∃ q', U q' ∧ q'.length = q.length ∧ val q' = (2 * Q + r2 / b) * 2 ^ i ∧ rf1_DivMod.q15 N Kend a (i : Int) (lim b) q (lim r2) = Kend a (i : Int) (lim b) q' (lim (r2 % b)) := by
  unfold rf1_DivMod.q15
  rw [hS]
  by_cases h : r2 < b
  · refine ⟨q, hu, rfl, ?_, ?_⟩
    · rw [Nat.div_eq_of_lt h, hq, Nat.pow_succ, Nat.add_zero, Nat.mul_comm (2 ^ i) 2, ← Nat.mul_assoc, Nat.mul_comm Q 2]
    · rw [if_pos h, Nat.mod_eq_of_lt h]
      rfl
  · have hd : r2 / b = 1 := Nat.div_eq_of_lt_le (by omega) (by omega)
    have hm : r2 % b = r2 - b := by
      have := Nat.div_add_mod r2 b
      rw [hd] at this; omega
    have hlow := limb_low hu (i := i) (c := Q) hq
    have hs : i % 32 < 32 := Nat.mod_lt _ (by omega)
    have hp : i / 32 ≤ i := Nat.div_le_self ..
    have hpow : 2 ^ (i / 32 * 32 + i % 32) = 4294967296 ^ (i / 32) * 2 ^ (i % 32) := by
      rw [Nat.pow_add, Nat.mul_comm (i / 32) 32, ← pow_B]
    rw [show i / 32 * 32 + i % 32 = i by omega] at hpow
    have e1 : Int.tdiv (i : Int) 32 = ((i / 32 : Nat) : Int) := rfl
    have e2 : Int.tmod (i : Int) 32 = ((i % 32 : Nat) : Int) := rfl
    obtain ⟨x, hx, hx2⟩ := at_nat hu (i / 32)
    rw [hx, Int.toNat_natCast] at hlow
    have hor := or_bit hlow hs hx2
    have h2s : 2 ^ (i % 32) ≤ 2 ^ 31 := Nat.pow_le_pow_right (by omega) (by omega)
    rw [show (2 : Nat) ^ 31 = 2147483648 by decide] at h2s
    have hbound : x + 2 ^ (i % 32) < 4294967296 := by
      have h0 : 0 < 2 ^ (i % 32 + 1) := Nat.pow_pos (by omega)
      have hle : 2 ^ (i % 32 + 1) ∣ 4294967296 := by
        rw [show (4294967296 : Nat) = 2 ^ 32 by decide]
        exact Nat.pow_dvd_pow 2 (by omega)
      obtain ⟨k, hk⟩ := hle
      obtain ⟨j, hj⟩ := Nat.dvd_of_mod_eq_zero hlow
      have hp1 : 2 ^ (i % 32 + 1) = 2 ^ (i % 32) * 2 := Nat.pow_succ ..
      have : j + 1 ≤ k := by
        have : 2 ^ (i % 32 + 1) * j < 2 ^ (i % 32 + 1) * k := by omega
        exact Nat.lt_of_mul_lt_mul_left this
      have := Nat.mul_le_mul_left (2 ^ (i % 32 + 1)) this
      rw [Nat.mul_add, Nat.mul_one] at this
      omega
    have hupd := V_upd hi ((x + 2 ^ (i % 32) : Nat) : Int)
    rw [hx, Int.toNat_natCast, Int.toNat_natCast] at hupd
    refine ⟨q.set (i / 32) ((x + 2 ^ (i % 32) : Nat) : Int), hu.set (by omega) (by omega), by rw [List.length_set], ?_, ?_⟩
    · rw [hd, Nat.add_mul, Nat.one_mul, hpow]
      rw [hq, Nat.pow_succ, hpow, Nat.add_mul, Nat.mul_comm (2 ^ (i % 32))] at hupd
      rw [Nat.mul_comm 2 Q, Nat.mul_assoc, Nat.mul_comm 2]
      generalize 4294967296 ^ (i / 32) * 2 ^ (i % 32) = P at *
      generalize x * 4294967296 ^ (i / 32) = X at *
      omega
    · rw [if_neg h, hm]
      simp only [Option.bind_some, if_true]
      rw [e1, e2]
      generalize i / 32 = p at *
      generalize hsd : i % 32 = s at *
      rw [wi (n := (p : Int)) (by omega) (by omega), w64 (n := (s : Int)) (by omega) (by omega), if_pos (by omega), if_neg (by omega), if_pos (by omega), i2n, i2n, Nat.min_eq_left (by omega), hx]
      have e3 : IntKind.wrap .u32 (1 * 2 ^ s) = ((2 ^ s : Nat) : Int) := by
        rw [Int.one_mul, show ((2 : Int) ^ s) = ((2 ^ s : Nat) : Int) by simp]
        exact w32 (by omega) (by omega)
      rw [e3, hor]
theorem rdiv_loop {a : List Int} {b : Nat} (ha : L a) (hb : 0 < b) (sb : Sm (2 * b)) : ∀ (i : Nat), i ≤ 32 * a.length → Ev fun N => ∀ (K : List Int → List Int → Option (Bool × List Int × List Int × Unit)) (m : Nat) (q : List Int), U q → q.length = a.length → val q = (val a / 2 ^ i / b) * 2 ^ i →
    ∃ q', U q' ∧ q'.length = a.length ∧ val q' = val a / b ∧ rf1_DivMod.l10 N K (m + i + 1) a ((i : Int) - 1) (lim b) q (lim (val a / 2 ^ i % b)) = K q' (lim (val a % b))
  | 0, hi => by
    refine Ev.of fun N K m q hu hl hq => ⟨q, hu, hl, by simpa using hq, ?_⟩
    show rf1_DivMod.p10 N K (rf1_DivMod.l10 N K (m + 0)) a _ (lim b) q _ = _
    unfold rf1_DivMod.p10
    rw [if_neg (by rw [decide_eq_true_eq]; omega), Nat.pow_zero, Nat.div_one]
  | i + 1, hi => by
    have la := ha.len
    obtain ⟨r, hr⟩ : ∃ r, r = val a / 2 ^ (i + 1) % b := ⟨_, rfl⟩
    obtain ⟨Q, hQ⟩ : ∃ Q, Q = val a / 2 ^ (i + 1) / b := ⟨_, rfl⟩
    obtain ⟨t, ht⟩ : ∃ t, t = val a / 2 ^ i % 2 := ⟨_, rfl⟩
    have hrb : r < b := by rw [hr]; exact Nat.mod_lt _ hb
    have ht2 : t < 2 := by rw [ht]; exact Nat.mod_lt _ (by omega)
    have hdm := Nat.div_add_mod (val a / 2 ^ (i + 1)) b
    rw [← hr, ← hQ] at hdm
    have hstep := shift_step (A := val a) (i := i)
    rw [← ht, ← hdm] at hstep
    have hAi : val a / 2 ^ i = b * (2 * Q) + (2 * r + t) := by
      rw [hstep, Nat.mul_add, ← Nat.mul_assoc, Nat.mul_comm 2 b, Nat.mul_assoc]; omega
    have hd2 : val a / 2 ^ i / b = 2 * Q + (2 * r + t) / b := by rw [hAi, Nat.mul_add_div hb]
    have hm2 : val a / 2 ^ i % b = (2 * r + t) % b := by rw [hAi, Nat.mul_add_mod]
    have s0 : Sm r := sb.mono (by omega)
    have s1 : Sm (r + r) := sb.mono (by omega)
    have s2 : Sm (2 * r + t) := sb.mono (by omega)
    have sb' : Sm b := sb.mono (by omega)
    have ih := rdiv_loop ha hb sb i (by omega)
    have aE := radd_ok s0.lim s0.lim (by rw [V_lim]; exact s1)
    have a1E : t = 1 → Ev fun N => rf1_Add.f N (lim (r + r)) [1] = some (lim (2 * r + t), ()) := fun h1 => by
      have := radd_ok s1.lim L.one (by rw [V_lim]; show Sm (r + r + 1); exact sb.mono (by omega))
      rw [V_lim] at this
      rw [show 2 * r + t = r + r + val [1] by show _ = r + r + 1; omega]
      exact this
    have a1E' : Ev fun N => t = 1 → rf1_Add.f N (lim (r + r)) [1] = some (lim (2 * r + t), ()) := by
      by_cases h1 : t = 1
      · exact (a1E h1).mono fun _ h _ => h
      · exact Ev.of fun _ h => absurd h h1
    have sE := rsub_ok s2.lim sb'.lim (by rwa [V_lim]) (by rwa [V_lim])
    rw [V_lim, V_lim] at sE
    rw [V_lim] at aE
    refine ((ih.and aE).and (a1E'.and sE)).mono fun N ⟨⟨h1, h2⟩, h3, h4⟩ K m q hu hl hq => ?_
    rw [← hQ] at hq
    show ∃ q', _ ∧ _ ∧ _ ∧ rf1_DivMod.p10 N K (rf1_DivMod.l10 N K (m + (i + 1))) a (((i + 1 : Nat) : Int) - 1) (lim b) q _ = _
    obtain ⟨q1, k1, k2, k3, k4⟩ := rdiv_q15 (N := N) (fun y0_37 y11_37 yr1_37 yr4_37 yr5_37 => rf1_DivMod.q11 N (fun y0_38 y11_38 yr1_38 yr4_38 yr5_38 => rf1_DivMod.l10 N K (m + (i + 1)) y0_38 y11_38 yr1_38 yr4_38 yr5_38) y0_37 y11_37 yr1_37 yr4_37 yr5_37) a (i := i) (r2 := 2 * r + t) (b := b) (Q := Q) (q := q) hu (by rw [hl]; omega) hq (by omega) h4 (by omega)
    obtain ⟨q2, j1, j2, j3, j4⟩ := h1 K m q1 k1 (by rw [k2, hl]) (by rw [k3, hd2])
    refine ⟨q2, j1, j2, j3, ?_⟩
    unfold rf1_DivMod.p10
    rw [← hr, show (((i + 1 : Nat) : Int) - 1) = (i : Int) by omega, if_pos (decide_eq_true (by omega)), h2]
    simp only [Option.bind_some]
    rw [rbit_ok ha.u (by omega), ← ht]
    simp only [Option.bind_some]
    have fin : rf1_DivMod.q15 N (fun y0_37 y11_37 yr1_37 yr4_37 yr5_37 => rf1_DivMod.q11 N (fun y0_38 y11_38 yr1_38 yr4_38 yr5_38 => rf1_DivMod.l10 N K (m + (i + 1)) y0_38 y11_38 yr1_38 yr4_38 yr5_38) y0_37 y11_37 yr1_37 yr4_37 yr5_37) a (i : Int) (lim b) q (lim (2 * r + t)) = K q2 (lim (val a % b)) := by
      rw [k4]
      unfold rf1_DivMod.q11
      rw [wi (by omega) (by omega), ← hm2]
      exact j4
    by_cases h1 : t = 1
    · rw [if_pos (decide_eq_true (by omega)), h3 h1]
      simp only [Option.bind_some]
      exact fin
    · rw [if_neg (by rw [decide_eq_true_eq]; omega)]
      rw [show 2 * r + t = r + r by omega] at fin
      exact fin
theorem rdivmod_ok {a b : List Int} (ha : L a) (hb : L b) (sa : Sm (val a)) (sb : Sm (2 * val b)) : Ev fun N => rf1_DivMod.f N a b = if val b = 0 then some (false, [], [], ()) else some (true, lim (val a / val b), lim (val a % val b), ()) := by
  have sb' : Sm (val b) := sb.mono (by omega)
  have la := ha.len
  have tE := rtrim_ok hb sb'
  by_cases h0 : val b = 0
  · refine tE.mono fun N h1 => ?_
    unfold rf1_DivMod.f
    rw [h1, if_pos h0]
    simp only [Option.bind_some]
    rw [h0, lim_zero]
    rfl
  · have uE := ruint64_ok ha sa
    have vE := ruint64_ok sb'.lim (by rwa [V_lim])
    rw [V_lim] at vE
    have hbl : (lim (val b)).length ≠ 0 := fun h => h0 (lim_len_zero.1 h)
    have big : Ev fun N => rf1_DivMod.q8 N a (lim (val b)) = some (true, lim (val a / val b), lim (val a % val b), ()) := by
      obtain ⟨n, hn⟩ : ∃ n, n = bl (val a) := ⟨_, rfl⟩
      have hn2 : n ≤ 32 * a.length := by
        rw [hn]
        apply bl_le
        have := V_lt ha.u
        rwa [pow_B] at this
      have hz : val a / 2 ^ n = 0 := Nat.div_eq_of_lt (by rw [hn]; exact bl_lt _)
      have lE := rdiv_loop ha (b := val b) (by omega) sb n hn2
      have bE := rbits_ok ha sa
      have sq : Sm (val a / val b) := sa.mono (Nat.div_le_self ..)
      have sr : Sm (val a % val b) := sb'.mono (Nat.le_of_lt (Nat.mod_lt _ (by omega)))
      have lE2 := lE
      obtain ⟨n0, hl0⟩ := lE
      obtain ⟨q0, u1, u2, u3, u4⟩ := hl0 n0 (Nat.le_refl _) (fun q r => some (true, q, r, ())) 0 (List.replicate a.length 0) (U.rep _) (by simp) (by rw [hz, Nat.zero_div, Nat.zero_mul, V_rep])
      have tq := rtrim_ok' u1 (by omega) (by rw [u3]; exact sq)
      rw [u3] at tq
      have tr := rtrim_lim sr
      refine ((lE2.and bE).and ((tq.and tr).and (Ev.ge (n + 1)))).mono fun N ⟨⟨h1, h2⟩, ⟨h3, h4⟩, h5⟩ => ?_
      unfold rf1_DivMod.q8
      rw [if_pos (by omega), h2]
      simp only [Option.bind_some]
      rw [← hn, i2n, wi (by omega) (by omega)]
      obtain ⟨q', k1, k2, k3, k4⟩ := h1 (fun yr4_41 yr5_41 => (rf1_Trim.f N yr4_41).bind fun t43 => ((rf1_Trim.f N yr5_41).bind fun t44 => (some (true, t43.1, t44.1, ())))) (N - (n + 1)) (List.replicate a.length 0) (U.rep _) (by simp) (by rw [hz, Nat.zero_div, Nat.zero_mul, V_rep])
      rw [show N - (n + 1) + n + 1 = N by omega, hz, Nat.zero_mod, lim_zero] at k4
      rw [k4, val_inj k1 u1 (by omega) (by omega), h3]
      simp only [Option.bind_some]
      rw [h4]
      rfl
    by_cases hs : val a < 18446744073709551616 ∧ val b < 18446744073709551616
    · have hq : val a / val b < 18446744073709551616 := Nat.lt_of_le_of_lt (Nat.div_le_self ..) hs.1
      have hr : val a % val b < 18446744073709551616 := Nat.lt_trans (Nat.mod_lt _ (by omega)) hs.2
      have f1 := rfromU_ok (v := ((val a / val b : Nat) : Int)) (Int.natCast_nonneg _) (Int.ofNat_lt.2 hq)
      have f2 := rfromU_ok (v := ((val a % val b : Nat) : Int)) (Int.natCast_nonneg _) (Int.ofNat_lt.2 hr)
      refine ((tE.and (uE.and vE)).and (f1.and f2)).mono fun N ⟨⟨h1, h2, h3⟩, h4, h5⟩ => ?_
      unfold rf1_DivMod.f
      rw [h1, if_neg h0]
      simp only [Option.bind_some]
      rw [if_neg (by rw [decide_eq_true_eq]; omega), h2, if_pos hs.1]
      simp only [Option.bind_some]
      rw [h3, if_pos hs.2]
      simp only [Option.bind_some, if_true]
      unfold rf1_DivMod.q10000007
      have e1 : Int.tdiv ((val a : Nat) : Int) ((val b : Nat) : Int) = ((val a / val b : Nat) : Int) := rfl
      have e2 : Int.tmod ((val a : Nat) : Int) ((val b : Nat) : Int) = ((val a % val b : Nat) : Int) := rfl
      rw [e1, e2]
      generalize val a / val b = A at *
      generalize val a % val b = R at *
      rw [if_pos rfl, if_neg (by omega), w64 (n := (A : Int)) (by omega) (by omega), h4]
      simp only [Option.bind_some]
      rw [if_neg (by omega), h5]
      rfl
    · refine ((tE.and (uE.and vE)).and big).mono fun N ⟨⟨h1, h2, h3⟩, h4⟩ => ?_
      unfold rf1_DivMod.f
      rw [h1, if_neg h0]
      simp only [Option.bind_some]
      rw [if_neg (by rw [decide_eq_true_eq]; omega), h2, h3]
      unfold rf1_DivMod.q10000007
      by_cases h5 : val a < 18446744073709551616
      · rw [if_pos h5, if_neg (fun h6 => hs ⟨h5, h6⟩)]
        exact h4
      · rw [if_neg h5]
        by_cases h6 : val b < 18446744073709551616
        · rw [if_pos h6]; exact h4
        · rw [if_neg h6]; exact h4
end Go.Proofs.YtkadllkeekoopaaGreat.Abs.T
end

section
namespace Go.Proofs.YtkadllkeekoopaaGreat.Abs.T
open Go.Proofs.YtkadllkeekoopaaGreat.Abs.Ints Go.Proofs.YtkadllkeekoopaaGreat.Abs.BN
set_option maxRecDepth 10000

theorem rmake_ok (b : Bool) {a : List Int} (h : L a) (hs : Sm (val a)) : Ev fun N => rf2_Make.f N b a = some (I (sgz b (val a)), ()) := by
  refine (rtrim_ok h hs).mono fun N h1 => ?_
  unfold rf2_Make.f
  rw [h1]
  simp only [Option.bind_some]
  unfold sgz
  rw [← I_eq]
  cases b with
  | true => rw [if_pos rfl, lim_pos_len]; rfl
  | false => rfl
theorem rmake_lim (b : Bool) {n : Nat} (hs : Sm n) : Ev fun N => rf2_Make.f N b (lim n) = some (I (sgz b n), ()) := by
  have := rmake_ok b hs.lim (by rwa [V_lim])
  rwa [V_lim] at this
theorem rnorm_ok {p : Bool × List Int} (h : L p.2) (hs : Sm (val p.2)) : Ev fun N => rf2_Norm.f N p = some (I (iv p), ()) := by
  refine (rmake_ok p.1 h hs).mono fun N h1 => ?_
  unfold rf2_Norm.f
  rw [h1]
  rfl
theorem rfromInt_ok {v : Int} (h0 : -9223372036854775808 ≤ v) (h1 : v < 9223372036854775808) : Ev fun N => rf2_FromInt.f N v = some (I v, ()) := by
  have hs : Sm v.natAbs := Sm.bits (b := 64) (by omega) (by omega)
  by_cases hv : v < 0
  · have fE := rfromU_ok (v := -v) (by omega) (by omega)
    have mE := rmake_lim true hs
    refine (fE.and mE).mono fun N ⟨e, e2⟩ => ?_
    unfold rf2_FromInt.f
    rw [if_pos (decide_eq_true hv), wi (n := v + 1) (by omega) (by omega), wi (n := 0 - (v + 1)) (by omega) (by omega), w64 (n := 0 - (v + 1)) (by omega) (by omega), w64 (by omega) (by omega), show 0 - (v + 1) + 1 = -v by omega, e]
    simp only [Option.bind_some]
    rw [show (-v).toNat = v.natAbs by omega, e2]
    simp only [Option.bind_some]
    unfold sgz
    rw [if_pos rfl, show -((v.natAbs : Nat) : Int) = v by omega]
  · have fE := rfromU_ok (v := v) (by omega) (by omega)
    have mE := rmake_lim false hs
    refine (fE.and mE).mono fun N ⟨e, e2⟩ => ?_
    unfold rf2_FromInt.f
    rw [if_neg (by rw [decide_eq_true_eq]; exact hv), w64 (by omega) (by omega), e]
    simp only [Option.bind_some]
    rw [show v.toNat = v.natAbs by omega, e2]
    simp only [Option.bind_some]
    unfold sgz
    rw [if_neg (by decide), show ((v.natAbs : Nat) : Int) = v by omega]
theorem I_1 (z : Int) : (I z).1 = decide (z < 0) := rfl
theorem I_2 (z : Int) : (I z).2 = lim z.natAbs := rfl
theorem awake_ev : Ev fun N => gridmarketlaw04_awake.f N = some (true, ()) := by
  refine ⟨400, fun N hN => ?_⟩
  obtain ⟨M, rfl⟩ : ∃ M, N = M + 400 := ⟨N - 400, by omega⟩
  have : ∀ M, gridmarketlaw04_awake.f (M + 400) = some (true, ()) := by
    intro M
    kernel_rfl
  exact this M

theorem iv_sgz (p : Bool × List Int) : sgz p.1 (val p.2) = iv p := rfl
/-! ## GCD -/
theorem rgcd_loop : ∀ (y x : Nat), Sm x → Sm (2 * y) → ∃ k, Ev fun N => ∀ (K : List Int → Option (List Int × Unit)) (m : Nat), rf1_GCD.l2 N K (m + k) (lim x) (lim y) = K (lim (Nat.gcd x y)) := by
  intro y
  induction y using Nat.strongRecOn with
  | ind y ih =>
    intro x hx hy
    by_cases h0 : y = 0
    · subst h0
      refine ⟨1, Ev.of fun N K m => ?_⟩
      show rf1_GCD.p2 N K (rf1_GCD.l2 N K m) _ (lim 0) = _
      unfold rf1_GCD.p2
      rw [lim_zero, if_neg (by simp), Nat.gcd_zero_right]
    · have hlt : x % y < y := Nat.mod_lt _ (by omega)
      have sy : Sm y := hy.mono (by omega)
      obtain ⟨k, hk⟩ := ih _ hlt y sy (hy.mono (by omega))
      have dE := rdivmod_ok hx.lim sy.lim (by rwa [V_lim]) (by rwa [V_lim])
      rw [V_lim, V_lim] at dE
      refine ⟨k + 1, (hk.and dE).mono fun N ⟨h1, h2⟩ K m => ?_⟩
      show rf1_GCD.p2 N K (rf1_GCD.l2 N K (m + k)) _ (lim y) = _
      unfold rf1_GCD.p2
      have hl : (lim y).length ≠ 0 := fun h => h0 (lim_len_zero.1 h)
      rw [if_pos (decide_eq_true (by omega)), h2, if_neg h0]
      simp only [Option.bind_some]
      rw [h1, Nat.gcd_comm y, ← Nat.gcd_rec, Nat.gcd_comm]
theorem rgcd_ok {a b : List Int} (ha : L a) (hb : L b) (sa : Sm (val a)) (sb : Sm (2 * val b)) : Ev fun N => rf1_GCD.f N a b = some (lim (Nat.gcd (val a) (val b)), ()) := by
  have sb' : Sm (val b) := sb.mono (by omega)
  obtain ⟨k, hk⟩ := rgcd_loop (val b) (val a) sa sb
  refine ((hk.and (Ev.ge k)).and ((rtrim_ok ha sa).and (rtrim_ok hb sb'))).mono fun N ⟨⟨h1, h2⟩, h3, h4⟩ => ?_
  unfold rf1_GCD.f
  rw [h3, h4]
  simp only [Option.bind_some]
  have := h1 (fun yr0_7 => some (yr0_7, ())) (N - k)
  rwa [show N - k + k = N by omega] at this
/-! ## Integers -/
theorem rgcd2_ok {p q : Bool × List Int} (hp : L p.2) (hq : L q.2) (sp : Sm (val p.2)) (sq : Sm (2 * val q.2)) : Ev fun N => rf2_GCD.f N p q = some (I ((Nat.gcd (val p.2) (val q.2) : Nat) : Int), ()) := by
  have sq' : Sm (val q.2) := sq.mono (by omega)
  have sg : Sm (Nat.gcd (val p.2) (val q.2)) := by
    rcases Nat.eq_zero_or_pos (val p.2) with h | h
    · rw [h, Nat.gcd_zero_left]; exact sq'
    · exact sp.mono (Nat.gcd_le_left _ h)
  refine ((rgcd_ok hp hq sp sq).and (rmake_lim false sg)).mono fun N ⟨h1, h2⟩ => ?_
  unfold rf2_GCD.f
  rw [h1]
  simp only [Option.bind_some]
  rw [h2]
  rfl
theorem rneg_ok {p : Bool × List Int} (hp : L p.2) (sp : Sm (val p.2)) : Ev fun N => rf2_Neg.f N p = some (I (-iv p), ()) := by
  refine (rmake_ok (!p.1) hp sp).mono fun N h1 => ?_
  unfold rf2_Neg.f
  rw [h1]
  simp only [Option.bind_some]
  congr 3
  unfold sgz iv
  cases p.1 <;> simp
theorem rabs_ok {p : Bool × List Int} (hp : L p.2) (sp : Sm (val p.2)) : Ev fun N => rf2_Abs.f N p = some (I (val p.2 : Int), ()) := by
  refine (rmake_ok false hp sp).mono fun N h1 => ?_
  unfold rf2_Abs.f
  rw [h1]
  rfl
theorem rsign_ok {p : Bool × List Int} (hp : L p.2) (sp : Sm (val p.2)) : Ev fun N => rf2_Sign.f N p = some (sgn (iv p), ()) := by
  refine (rnorm_ok hp sp).mono fun N h1 => ?_
  unfold rf2_Sign.f
  rw [h1]
  simp only [Option.bind_some]
  rw [I_1, I_2]
  by_cases hn : iv p < 0
  · rw [decide_eq_true hn, if_pos rfl, sgn_neg hn]
  · rw [decide_eq_false hn, if_neg (by decide)]
    by_cases h0 : iv p = 0
    · rw [sgn_zero h0, if_pos (by rw [h0, Int.natAbs_zero, lim_zero]; rfl)]
    · have hl : (lim (iv p).natAbs).length ≠ 0 := fun h => by have := lim_len_zero.1 h; omega
      rw [sgn_pos (by omega), if_neg (by rw [decide_eq_true_eq]; omega)]
theorem radd2_ok {p q : Bool × List Int} (hp : L p.2) (hq : L q.2) (sp : Sm (val p.2)) (sq : Sm (val q.2)) (hs : Sm (val p.2 + val q.2)) : Ev fun N => rf2_Add.f N p q = some (I (iv p + iv q), ()) := by
  by_cases he : p.1 = q.1
  · refine ((radd_ok hp hq hs).and (rmake_lim p.1 hs)).mono fun N ⟨h1, h2⟩ => ?_
    unfold rf2_Add.f
    rw [if_pos (by rw [he]; simp), h1]
    simp only [Option.bind_some]
    rw [h2]
    simp only [Option.bind_some]
    congr 3
    unfold iv sgz
    rw [he]
    split <;> omega
  · by_cases hlt : val p.2 < val q.2
    · refine (((rsub_ok hp hq sp sq).and (rsub_ok hq hp sq sp)).and (rmake_lim q.1 (n := val q.2 - val p.2) (sq.mono (by omega)))).mono fun N ⟨⟨h1, h2⟩, h3⟩ => ?_
      unfold rf2_Add.f
      rw [if_neg (by simpa using he), h1, if_pos hlt]
      simp only [Option.bind_some, Bool.false_eq_true, if_false]
      rw [h2, if_neg (by omega)]
      simp only [Option.bind_some]
      rw [h3]
      simp only [Option.bind_some]
      congr 3
      unfold iv sgz
      cases hp1 : p.1 <;> cases hq1 : q.1 <;> rw [hp1, hq1] at he <;> simp only [if_true, Bool.false_eq_true, if_false] <;> first | exact absurd rfl he | omega
    · refine ((rsub_ok hp hq sp sq).and (rmake_lim p.1 (n := val p.2 - val q.2) (sp.mono (by omega)))).mono fun N ⟨h1, h3⟩ => ?_
      unfold rf2_Add.f
      rw [if_neg (by simpa using he), h1, if_neg hlt]
      simp only [Option.bind_some, if_true]
      rw [h3]
      simp only [Option.bind_some]
      congr 3
      unfold iv sgz
      cases hp1 : p.1 <;> cases hq1 : q.1 <;> rw [hp1, hq1] at he <;> simp only [if_true, Bool.false_eq_true, if_false] <;> first | exact absurd rfl he | omega
theorem I_L {z : Int} (h : Sm z.natAbs) : L (I z).2 := by rw [I_2]; exact h.lim
theorem I_V (z : Int) : val (I z).2 = z.natAbs := by rw [I_2, V_lim]
theorem raddI {x y : Int} (hx : Sm x.natAbs) (hy : Sm y.natAbs) (hs : Sm (x.natAbs + y.natAbs)) : Ev fun N => rf2_Add.f N (I x) (I y) = some (I (x + y), ()) := by
  have := radd2_ok (p := I x) (q := I y) (I_L hx) (I_L hy) (by rwa [I_V]) (by rwa [I_V]) (by rwa [I_V, I_V])
  rwa [iv_I, iv_I] at this
theorem rnegI {x : Int} (hx : Sm x.natAbs) : Ev fun N => rf2_Neg.f N (I x) = some (I (-x), ()) := by
  have := rneg_ok (p := I x) (I_L hx) (by rwa [I_V])
  rwa [iv_I] at this
theorem rsubI {x y : Int} (hx : Sm x.natAbs) (hy : Sm y.natAbs) (hs : Sm (x.natAbs + y.natAbs)) : Ev fun N => rf2_Sub.f N (I x) (I y) = some (I (x - y), ()) := by
  refine ((rnegI hy).and (raddI (x := x) (y := -y) hx (by rwa [Int.natAbs_neg]) (by rwa [Int.natAbs_neg]))).mono fun N ⟨h1, h2⟩ => ?_
  unfold rf2_Sub.f
  rw [h1]
  simp only [Option.bind_some]
  rw [h2]
  rfl
theorem ediv_uniq {a b k r : Int} (hb : b ≠ 0) (h : a = b * k + r) (h0 : 0 ≤ r) (h1 : r < (b.natAbs : Int)) : a / b = k ∧ a % b = r := by
  have e1 : a % b = r := by
    rw [h, Int.mul_add_emod_self_left]
    rcases Int.lt_or_le b 0 with hn | hn
    · rw [← Int.emod_neg, Int.emod_eq_of_lt h0 (by omega)]
    · exact Int.emod_eq_of_lt h0 (by omega)
  have e2 := Int.mul_ediv_add_emod a b
  rw [e1] at e2
  exact ⟨Int.eq_of_mul_eq_mul_left hb (by omega), e1⟩
end Go.Proofs.YtkadllkeekoopaaGreat.Abs.T
end

section
namespace Go.Proofs.YtkadllkeekoopaaGreat.Abs.T
open Go.Proofs.YtkadllkeekoopaaGreat.Abs.Ints Go.Proofs.YtkadllkeekoopaaGreat.Abs.BN
set_option maxRecDepth 10000

theorem sgz_abs (b : Bool) (n : Nat) : (sgz b n).natAbs = n := by unfold sgz; cases b <;> simp
theorem rdivI_ok {p q : Bool × List Int} (hp : L p.2) (hq : L q.2) (sp : Sm (val p.2 + 1)) (sq : Sm (2 * val q.2)) (h0 : iv q ≠ 0) : Ev fun N => rf2_DivMod.f N p q = some (I (iv p / iv q), I (iv p % iv q), true, ()) := by
  have hb := iv_abs q
  have hb0 : val q.2 ≠ 0 := by omega
  have sq' : Sm (val q.2) := sq.mono (by omega)
  have sp' : Sm (val p.2) := sp.mono (by omega)
  obtain ⟨d, hd⟩ : ∃ d, d = val p.2 / val q.2 := ⟨_, rfl⟩
  obtain ⟨r, hr⟩ : ∃ r, r = val p.2 % val q.2 := ⟨_, rfl⟩
  have hrlt : r < val q.2 := by rw [hr]; exact Nat.mod_lt _ (by omega)
  have hdle : d ≤ val p.2 := by rw [hd]; exact Nat.div_le_self ..
  have hdm := Nat.div_add_mod (val p.2) (val q.2)
  rw [← hd, ← hr] at hdm
  have sd : Sm d := sp'.mono hdle
  have sr : Sm r := sq'.mono (by omega)
  have dE := rdivmod_ok hp hq sp' sq
  rw [if_neg hb0, ← hd, ← hr] at dE
  have m1 := rmake_lim (!(p.1 == q.1)) sd
  have m2 := rmake_lim p.1 sr
  have sd1 : Sm (d + 1) := sp.mono (by omega)
  have aE := rabs_ok hq sq'
  have bE := raddI (x := sgz p.1 r) (y := (val q.2 : Int)) (by rwa [sgz_abs]) (by simpa using sq') (by rw [sgz_abs]; exact sq.mono (by simp; omega))
  have o1 := rfromInt_ok (v := 1) (by omega) (by omega)
  have p1 := raddI (x := sgz (!(p.1 == q.1)) d) (y := 1) (by rwa [sgz_abs]) Sm.one (by rw [sgz_abs]; exact sd1)
  have q1 := rsubI (x := sgz (!(p.1 == q.1)) d) (y := 1) (by rwa [sgz_abs]) Sm.one (by rw [sgz_abs]; exact sd1)
  have hdmi : (val p.2 : Int) = (val q.2 : Int) * (d : Int) + (r : Int) := by rw [← hdm, Int.natCast_add, Int.natCast_mul]
  have hpv : iv p = if p.1 then -(val p.2 : Int) else (val p.2 : Int) := rfl
  have hqv : iv q = if q.1 then -(val q.2 : Int) else (val q.2 : Int) := rfl
  refine (((dE.and m1).and (m2.and aE)).and ((bE.and o1).and (p1.and q1))).mono fun N ⟨⟨⟨e1, e2⟩, e3, e4⟩, ⟨e5, e6⟩, e7, e8⟩ => ?_
  unfold rf2_DivMod.f
  rw [e1]
  simp only [Option.bind_some, Bool.not_true, Bool.false_eq_true, if_false]
  rw [e2]
  simp only [Option.bind_some]
  rw [e3]
  simp only [Option.bind_some]
  rw [I_1]
  unfold rf2_DivMod.q10
  by_cases hneg : sgz p.1 r < 0
  · have hp1 : p.1 = true := by
      unfold sgz at hneg
      cases h : p.1 with
      | true => rfl
      | false => rw [h] at hneg; simp only [Bool.false_eq_true, if_false] at hneg; omega
    have hr0 : 0 < r := by
      unfold sgz at hneg
      rw [hp1, if_pos rfl] at hneg; omega
    rw [decide_eq_true hneg, if_pos rfl, e4]
    simp only [Option.bind_some]
    rw [e5]
    simp only [Option.bind_some]
    rw [hp1, if_pos rfl] at hpv
    have er : sgz p.1 r + (val q.2 : Int) = ((val q.2 - r : Nat) : Int) := by
      unfold sgz
      rw [hp1, if_pos rfl]; omega
    have e1' : ((val q.2 - r : Nat) : Int) = (val q.2 : Int) - (r : Int) := by omega
    rcases Bool.eq_false_or_eq_true q.1 with hq1 | hq1
    · rw [if_pos hq1, e6]
      simp only [Option.bind_some]
      rw [e7]
      simp only [Option.bind_some]
      rw [hq1, if_pos rfl] at hqv
      obtain ⟨l1, l2⟩ := ediv_uniq (a := iv p) (b := iv q) (k := sgz (!(p.1 == q.1)) d + 1) (r := ((val q.2 - r : Nat) : Int)) h0 (by
        rw [hpv, hqv, hdmi, hp1, hq1, e1']
        unfold sgz
        simp only [beq_self_eq_true, Bool.not_true, Bool.false_eq_true, if_false]
        grind) (by omega) (by omega)
      rw [l1, l2, er]
    · rw [if_neg (by rw [hq1]; decide), e6]
      simp only [Option.bind_some]
      rw [e8]
      simp only [Option.bind_some]
      rw [hq1, if_neg (by decide)] at hqv
      obtain ⟨l1, l2⟩ := ediv_uniq (a := iv p) (b := iv q) (k := sgz (!(p.1 == q.1)) d - 1) (r := ((val q.2 - r : Nat) : Int)) h0 (by
        rw [hpv, hqv, hdmi, hp1, hq1, e1']
        unfold sgz
        rw [if_pos (by decide)]
        grind) (by omega) (by omega)
      rw [l1, l2, er]
  · rw [decide_eq_false hneg, if_neg (by decide)]
    obtain ⟨l1, l2⟩ := ediv_uniq (a := iv p) (b := iv q) (k := sgz (!(p.1 == q.1)) d) (r := (r : Int)) h0 (by
      rw [hpv, hqv, hdmi]
      unfold sgz at hneg ⊢
      cases hp1 : p.1 with
      | false => cases q.1 <;> simp [Int.neg_mul, Int.mul_neg]
      | true =>
        rw [hp1, if_pos rfl] at hneg
        have : r = 0 := by omega
        subst this
        cases q.1 <;> simp [Int.neg_mul, Int.mul_neg]) (by omega) (by omega)
    have er : sgz p.1 r = (r : Int) := by
      unfold sgz at hneg ⊢
      cases hp1 : p.1 with
      | false => rfl
      | true => rw [hp1, if_pos rfl] at hneg; rw [if_pos rfl]; omega
    rw [l1, l2, er]

/-! ## Fractions -/
/-- n/d in lowest terms -/
def R (n : Int) (d : Nat) : (Bool × List Int) × List Int := (I (n / (Nat.gcd n.natAbs d : Int)), lim (d / Nat.gcd n.natAbs d))
theorem gcd_pos' {n : Nat} {d : Nat} (hd : 0 < d) : 0 < Nat.gcd n d := Nat.gcd_pos_of_pos_right _ hd
theorem R_one (n : Int) : R n 1 = (I n, [1]) := by
  unfold R
  rw [Nat.gcd_one_right, ← lim_one]
  simp
theorem R_zero {d : Nat} (hd : 0 < d) : R 0 d = (I 0, [1]) := by
  unfold R
  rw [Int.natAbs_zero, Nat.gcd_zero_left, Nat.div_self hd, lim_one, Int.zero_ediv]
theorem rsign_I {x : Int} (hx : Sm x.natAbs) : Ev fun N => rf2_Sign.f N (I x) = some (sgn x, ()) := by
  have := rsign_ok (p := I x) (I_L hx) (by rwa [I_V])
  rwa [iv_I] at this
/-- A fraction from its two parts; the lower one is not negative. -/
theorem rmk3_ok {p q : Bool × List Int} (hp : L p.2) (hq : L q.2) (sp : Sm (2 * (val p.2 + 1))) (sq : Sm (2 * (val q.2 + 1))) (h0 : 0 < iv q) : Ev fun N => rf3_Make.f N p q = some (R (iv p) (val q.2), ()) := by
  have hb := iv_abs q
  have ha := iv_abs p
  have sp1 : Sm (val p.2 + 1) := sp.mono (by omega)
  have sp' : Sm (val p.2) := sp.mono (by omega)
  have sq1 : Sm (val q.2 + 1) := sq.mono (by omega)
  have sq2 : Sm (2 * val q.2) := sq.mono (by omega)
  have sq' : Sm (val q.2) := sq.mono (by omega)
  obtain ⟨g, hg⟩ : ∃ g, g = Nat.gcd (val p.2) (val q.2) := ⟨_, rfl⟩
  have hgp : 0 < g := by rw [hg]; exact gcd_pos' (by omega)
  have hgle : g ≤ val q.2 := by rw [hg]; exact Nat.gcd_le_right _ (by omega)
  have sg : Sm g := sq'.mono hgle
  have sg2 : Sm (2 * g) := sq2.mono (by omega)
  have s1 := rsign_ok hq sq'
  have n1 := rnorm_ok hq sq'
  have eE := requal_ok (a := lim (val q.2)) (b := [1]) (by unfold Sm at sq'; omega)
  have n2 := rnorm_ok hp sp'
  have gE := rgcd2_ok hp hq sp' sq2
  rw [← hg] at gE
  have d1 := rdivI_ok (p := p) (q := I (g : Int)) hp (I_L (by simpa using sg)) sp1 (by rw [I_V]; simpa using sg2) (by rw [iv_I]; omega)
  have d2 := rdivI_ok (p := q) (q := I (g : Int)) hq (I_L (by simpa using sg)) sq1 (by rw [I_V]; simpa using sg2) (by rw [iv_I]; omega)
  rw [iv_I] at d1 d2
  have hiq : iv q = (val q.2 : Int) := by omega
  have hdiv : iv q / (g : Int) = ((val q.2 / g : Nat) : Int) := by rw [hiq]; rfl
  refine (((s1.and n1).and (eE.and n2)).and (gE.and (d1.and d2))).mono fun N ⟨⟨⟨e1, e2⟩, e3, e4⟩, e5, e6, e7⟩ => ?_
  have q6 : rf3_Make.q6 N p q (false, [], []) = some (R (iv p) (val q.2), ()) := by
    unfold rf3_Make.q6
    rw [e5]
    simp only [Option.bind_some]
    rw [e6]
    simp only [Option.bind_some]
    rw [e7]
    simp only [Option.bind_some]
    rw [hdiv, I_1, decide_eq_false (Int.not_lt.2 (Int.natCast_nonneg _)), if_neg (by decide)]
    unfold rf3_Make.q11 R
    rw [I_2, ha, ← hg, Int.natAbs_natCast]
  unfold rf3_Make.f
  rw [e1, sgn_pos h0]
  simp only [Option.bind_some]
  rw [if_neg (by decide), e2]
  simp only [Option.bind_some]
  rw [I_1, I_2, hb, decide_eq_false (by omega), if_pos (by decide), e3]
  simp only [Option.bind_some]
  unfold rf3_Make.q10000005
  by_cases h1 : lim (val q.2) = [1]
  · rw [decide_eq_true h1, if_pos rfl, e4]
    have : val q.2 = 1 := lim_inj (h1.trans lim_one.symm)
    simp only [Option.bind_some]
    rw [I_2, hb, h1, this, R_one]
  · rw [decide_eq_false h1, if_neg (by decide)]
    exact q6
def rn (p : (Bool × List Int) × List Int) : Int := if val p.2 = 0 then 0 else iv p.1
def rdn (p : (Bool × List Int) × List Int) : Nat := if val p.2 = 0 then 1 else val p.2
theorem rnorm3_ok {p : (Bool × List Int) × List Int} (hp : L p.1.2) (hq : L p.2) (sp : Sm (2 * (val p.1.2 + 1))) (sq : Sm (2 * (val p.2 + 1))) : Ev fun N => rf3_Norm.f N p = some (R (rn p) (rdn p), ()) := by
  have sq' : Sm (val p.2) := sq.mono (by omega)
  by_cases h0 : val p.2 = 0
  · have hz : iv (false, p.2) = 0 := by unfold iv; rw [if_neg (by simp)]; show ((val p.2 : Nat) : Int) = 0; omega
    have s1 := rsign_ok (p := (false, p.2)) hq sq'
    refine s1.mono fun N e1 => ?_
    unfold rf3_Norm.f rf3_Make.f rf3_Zero.f
    rw [e1, sgn_zero hz]
    simp only [Option.bind_some]
    rw [if_pos (by decide)]
    simp only [Option.bind_some]
    unfold rn rdn
    rw [if_pos h0, if_pos h0, R_one, I_zero]
  · have hz : iv (false, p.2) = (val p.2 : Int) := by unfold iv; rw [if_neg (by simp)]
    refine (rmk3_ok (p := p.1) (q := (false, p.2)) hp hq sp sq (by omega)).mono fun N e1 => ?_
    unfold rf3_Norm.f
    rw [e1]
    simp only [Option.bind_some]
    unfold rn rdn
    rw [if_neg h0, if_neg h0]
end Go.Proofs.YtkadllkeekoopaaGreat.Abs.T
end

section
namespace Go.Proofs.YtkadllkeekoopaaGreat.Abs.T
open Go.Proofs.YtkadllkeekoopaaGreat.Abs.Ints Go.Proofs.YtkadllkeekoopaaGreat.Abs.BN
set_option maxRecDepth 10000

theorem I_div {n : Int} {g : Nat} (hg : 0 < g) (hd : g ∣ n.natAbs) : I (n / (g : Int)) = (decide (n < 0), lim (n.natAbs / g)) := by
  obtain ⟨k, hk⟩ := hd
  have e : n.natAbs / g = k := by rw [hk, Nat.mul_div_cancel_left _ hg]
  rw [e]
  rcases Int.lt_or_le n 0 with hn | hn
  · have : n = (g : Int) * (-(k : Int)) := by
      rw [Int.mul_neg, ← Int.natCast_mul, ← hk]; omega
    have hk0 : k ≠ 0 := by rintro rfl; simp at this; omega
    rw [decide_eq_true hn, this, Int.mul_ediv_cancel_left _ (by omega)]
    show (decide (-(k : Int) < 0), lim (-(k : Int)).natAbs) = _
    rw [decide_eq_true (by omega), Int.natAbs_neg, Int.natAbs_natCast]
  · have : n = (g : Int) * (k : Int) := by
      rw [← Int.natCast_mul, ← hk]; omega
    rw [decide_eq_false (by omega), this, Int.mul_ediv_cancel_left _ (by omega)]
    show (decide ((k : Int) < 0), lim (k : Int).natAbs) = _
    rw [decide_eq_false (by omega), Int.natAbs_natCast]
theorem bl_one {g : Nat} : bl g = 1 ↔ g = 1 := by
  constructor
  · intro h
    have h1 := bl_lt g
    rw [h] at h1
    rcases Nat.eq_zero_or_pos g with h0 | h0
    · rw [h0, bl_zero] at h; omega
    · have : g < 2 := by simpa using h1
      omega
  · rintro rfl
    exact bl_uniq (k := 0) (by omega) (by omega)
theorem qone_ok : Ev fun N => rational_one.f N = some ([1], ()) := by
  refine (fromU_ok (v := 1) (by omega) (by omega)).mono fun N h1 => ?_
  unfold rational_one.f
  rw [h1]
  simp only [Option.bind_some]
  rw [show (1 : Int).toNat = 1 from rfl, lim_one]
theorem qisOne_ok {g : Nat} (h : Sm g) : Ev fun N => rational_isOne.f N (lim g) = some (decide (g = 1), ()) := by
  have := bits_ok h.lim
  rw [V_lim] at this
  refine this.mono fun N h1 => ?_
  unfold rational_isOne.f
  rw [h1]
  simp only [Option.bind_some]
  congr 2
  exact decide_eq_decide.2 ⟨fun h => bl_one.1 (by omega), fun h => by have := bl_one.2 h; omega⟩
theorem qreduced_ok {p : Bool × List Int} {q : List Int} (hp : L p.2) (hq : L q) (sp : Sm (val p.2)) (sq : Sm (val q)) (h0 : 0 < val q) : Ev fun N => rational_reduced.f N p q = some (R (iv p) (val q), ()) := by
  have ha := iv_abs p
  have n1 := inorm_ok hp sp
  by_cases hz : iv p = 0
  · refine (n1.and qone_ok).mono fun N ⟨e1, e2⟩ => ?_
    unfold rational_reduced.f
    rw [e1]
    simp only [Option.bind_some]
    rw [I_2, hz, Int.natAbs_zero, lim_zero, if_pos (by rfl), e2]
    simp only [Option.bind_some]
    rw [R_zero h0]
  · obtain ⟨g, hg⟩ : ∃ g, g = Nat.gcd (val p.2) (val q) := ⟨_, rfl⟩
    have hgp : 0 < g := by rw [hg]; exact gcd_pos' h0
    have hgle : g ≤ val q := by rw [hg]; exact Nat.gcd_le_right _ h0
    have hgd : g ∣ (iv p).natAbs := by rw [ha, hg]; exact Nat.gcd_dvd_left ..
    have sg : Sm g := sq.mono hgle
    have gE := gcd_ok (a := lim (val p.2)) (b := q) sp.lim hq (by rwa [V_lim]) sq
    rw [V_lim, ← hg] at gE
    have d1 := divmod_ok (a := lim (val p.2)) (b := lim g) sp.lim sg.lim (by rwa [V_lim]) (by rwa [V_lim])
    have d2 := divmod_ok (a := q) (b := lim g) hq sg.lim sq (by rwa [V_lim])
    rw [V_lim, V_lim] at d1
    rw [V_lim] at d2
    have sdg : Sm (val q / g) := sq.mono (Nat.div_le_self ..)
    have t1 := trim_ok hq sq
    have t2 := trim_ok sdg.lim (by rwa [V_lim])
    rw [V_lim] at t2
    refine (((n1.and gE).and ((qisOne_ok sg).and d1)).and (d2.and (t1.and t2))).mono fun N ⟨⟨⟨e1, e2⟩, e3, e4⟩, e5, e6, e7⟩ => ?_
    have hl : (lim (val p.2)).length ≠ 0 := fun h => by have := lim_len_zero.1 h; omega
    unfold rational_reduced.f
    rw [e1]
    simp only [Option.bind_some]
    rw [I_2, ha, if_neg (by rw [decide_eq_true_eq]; omega), e2]
    simp only [Option.bind_some]
    rw [e3]
    simp only [Option.bind_some]
    unfold rational_reduced.q8 R
    by_cases h1 : g = 1
    · rw [decide_eq_true h1, if_neg (by decide), e6, ha, ← hg, h1]
      simp
    · rw [decide_eq_false h1, if_pos (by decide), e4, if_neg (by omega)]
      simp only [Option.bind_some]
      rw [e5, if_neg (by omega)]
      simp only [Option.bind_some]
      rw [e7]
      simp only [Option.bind_some]
      rw [ha, ← hg, I_div hgp hgd, I_1, ha]
theorem qnorm_ok {p : (Bool × List Int) × List Int} (hp : L p.1.2) (hq : L p.2) (sp : Sm (val p.1.2)) (sq : Sm (val p.2)) : Ev fun N => rational_Norm.f N p = some (R (rn p) (rdn p), ()) := by
  have b1 := bits_ok hq
  by_cases h0 : val p.2 = 0
  · refine ((b1.and (fromInt_ok (v := 0) (by omega) (by omega))).and qone_ok).mono fun N ⟨⟨e1, e2⟩, e3⟩ => ?_
    unfold rational_Norm.f rational_FromInt.f
    rw [e1, h0]
    simp only [Option.bind_some]
    rw [if_pos (by rfl), e2]
    simp only [Option.bind_some]
    rw [e3]
    simp only [Option.bind_some]
    unfold rn rdn
    rw [if_pos h0, if_pos h0, R_one]
  · refine (b1.and (qreduced_ok hp hq sp sq (by omega))).mono fun N ⟨e1, e2⟩ => ?_
    unfold rational_Norm.f
    rw [e1]
    simp only [Option.bind_some]
    have := bl_pos (n := val p.2) (by omega)
    rw [if_neg (by rw [decide_eq_true_eq]; omega), e2]
    simp only [Option.bind_some]
    unfold rn rdn
    rw [if_neg h0, if_neg h0]

/-! ## Texts of the reference -/
theorem digit_char : ∀ d : Nat, d < 10 → (([48, 49, 50, 51, 52, 53, 54, 55, 56, 57] : List UInt8).take (d + 1)).drop d = [UInt8.ofNat (48 + d)] := by decide
theorem dig_step' (n : Nat) : dig n = (if n / 10 = 0 then [] else dig (n / 10)) ++ [UInt8.ofNat (48 + n % 10)] := by
  by_cases h0 : n = 0
  · subst h0; rfl
  · unfold dig
    rw [if_neg h0, rd_pos (by omega), List.reverse_cons, List.map_append]
    by_cases h1 : n / 10 = 0
    · rw [if_pos h1, h1, rd_zero]; rfl
    · rw [if_neg h1, if_neg h1]; rfl
theorem rdig_loop : ∀ (n : Nat), Sm n → ∃ k, Ev fun N => ∀ (m : Nat) (acc : List UInt8), acc.length + (dig n).length ≤ 9223372036854775807 → rf4_digits.l2 N (m + k) (lim n) acc = some (dig n ++ acc, ()) := by
  intro n
  induction n using Nat.strongRecOn with
  | ind n ih =>
    intro hn
    have hd : n % 10 < 10 := Nat.mod_lt _ (by omega)
    have L10 : L [10] := ⟨fun x hx => by rw [List.mem_singleton.1 hx]; omega, by simp⟩
    have dE := rdivmod_ok (a := lim n) (b := [10]) hn.lim L10 (by rwa [V_lim]) (Sm.bits (b := 5) (by show 2 * (10 + 4294967296 * 0) < 2 ^ 5; omega) (by omega))
    rw [V_lim, show val [10] = 10 from rfl, if_neg (by omega)] at dE
    have s10 : Sm (n % 10) := Sm.bits (b := 4) (by omega) (by omega)
    have uE := ruint64_ok (a := lim (n % 10)) s10.lim (by rwa [V_lim])
    rw [V_lim, if_pos (by omega)] at uE
    have step : ∀ (N m k : Nat) (acc : List UInt8), acc.length + (dig n).length ≤ 9223372036854775807 → rf1_DivMod.f N (lim n) [10] = some (true, lim (n / 10), lim (n % 10), ()) → rf1_Uint64.f N (lim (n % 10)) = some (((n % 10 : Nat) : Int), true, ()) →
        rf4_digits.l2 N (m + k + 1) (lim n) acc = if n / 10 = 0 then some ([UInt8.ofNat (48 + n % 10)] ++ acc, ()) else rf4_digits.l2 N (m + k) (lim (n / 10)) ([UInt8.ofNat (48 + n % 10)] ++ acc) := fun N m k acc ha e1 e2 => by
      show rf4_digits.p2 N (rf4_digits.l2 N (m + k)) (lim n) acc = _
      unfold rf4_digits.p2
      rw [e1]
      simp only [Option.bind_some]
      rw [e2]
      simp only [Option.bind_some]
      have hl1 : 1 ≤ (dig n).length := by rw [dig_step']; simp
      have hc := digit_char (n % 10) hd
      generalize n % 10 = c at *
      rw [w64 (by omega) (by omega), if_pos (by simp only [List.length_cons, List.length_nil]; omega), show ((c : Int) + 1).toNat = c + 1 by omega, i2n, hc, if_pos (by simp only [List.length_cons, List.length_nil]; omega)]
      by_cases h1 : n / 10 = 0
      · rw [if_pos (by rw [h1, lim_zero]; rfl), if_pos h1]
      · have hl : (lim (n / 10)).length ≠ 0 := fun h => h1 (lim_len_zero.1 h)
        rw [if_neg (by rw [decide_eq_true_eq]; omega), if_neg h1]
    by_cases h1 : n / 10 = 0
    · refine ⟨1, (dE.and uE).mono fun N ⟨e1, e2⟩ m acc ha => ?_⟩
      have := step N m 0 acc ha e1 e2
      rw [if_pos h1] at this
      rw [dig_step', if_pos h1]
      exact this
    · obtain ⟨k, hk⟩ := ih (n / 10) (by omega) (hn.mono (Nat.div_le_self ..))
      refine ⟨k + 1, (hk.and (dE.and uE)).mono fun N ⟨e0, e1, e2⟩ m acc ha => ?_⟩
      have := step N m k acc ha e1 e2
      rw [if_neg h1] at this
      rw [show m + (k + 1) = m + k + 1 from rfl, this, dig_step', if_neg h1, List.append_assoc]
      rw [dig_step', if_neg h1, List.length_append] at ha
      exact e0 m _ (by rw [List.length_append]; simp only [List.length_cons, List.length_nil] at *; omega)
theorem rdigits_ok {n : Nat} (hn : Sm n) : Ev fun N => rf4_digits.f N (lim n) = some (dig n, ()) := by
  obtain ⟨k, hk⟩ := rdig_loop n hn
  have hl := (dig_len hn).2
  refine (hk.and (Ev.ge k)).mono fun N ⟨e1, e2⟩ => ?_
  unfold rf4_digits.f
  have := e1 (N - k) [] (by simp only [List.length_nil]; omega)
  rwa [show N - k + k = N by omega, List.append_nil] at this
theorem rformatInt_ok {p : Bool × List Int} (h : L p.2) (hs : Sm (val p.2)) : Ev fun N => rf4_FormatInt.f N p = some ((if iv p < 0 then [45] else []) ++ dig (iv p).natAbs, ()) := by
  refine ((rnorm_ok h hs).and (rdigits_ok (n := (iv p).natAbs) (by rwa [iv_abs]))).mono fun N ⟨h1, h2⟩ => ?_
  unfold rf4_FormatInt.f
  rw [h1]
  simp only [Option.bind_some]
  rw [I_1, I_2, h2]
  simp only [Option.bind_some]
  by_cases hn : iv p < 0
  · have := (dig_len hs).2
    rw [iv_abs, if_pos (decide_eq_true hn), if_pos hn, if_pos (by simp only [List.length_cons, List.length_nil]; omega)]
  · rw [decide_eq_false hn, if_neg (by decide), if_neg hn, List.nil_append]
end Go.Proofs.YtkadllkeekoopaaGreat.Abs.T
end

section
namespace Go.Proofs.YtkadllkeekoopaaGreat.Abs.T
open Go.Proofs.YtkadllkeekoopaaGreat.Abs.Ints Go.Proofs.YtkadllkeekoopaaGreat.Abs.BN
set_option maxRecDepth 10000

theorem w8 {n : Int} (h0 : 0 ≤ n) (h1 : n < 256) : IntKind.wrap .u8 n = n := by
  have : IntKind.wrap .u8 n = n % 256 := by simp [IntKind.wrap, IntKind.bits, IntKind.signed]
  omega
theorem dig_step {N : Nat} (Kend : List Int → Int → Int → List Int → Option (List UInt8 × Unit)) (x4 : List Int) {r i : Nat} {acc : List Int} (hr : r < 10000000000) (hi : i < 9) (ha : acc.length + 1 ≤ 140737488355328) :
    numtext_digits.q11 N Kend x4 (r : Int) (i : Int) acc = Kend x4 ((r / 10 : Nat) : Int) ((i + 1 : Nat) : Int) (acc ++ [((48 + r % 10 : Nat) : Int)]) := by
  unfold numtext_digits.q11
  have e1 : Int.tmod (r : Int) 10 = ((r % 10 : Nat) : Int) := rfl
  have e2 : Int.tdiv (r : Int) 10 = ((r / 10 : Nat) : Int) := rfl
  have h10 : r % 10 < 10 := Nat.mod_lt _ (by omega)
  rw [if_pos (by simp only [List.length_cons, List.length_nil]; omega), e1, e2]
  generalize r % 10 = a at *
  have : r / 10 < 10000000000 := by omega
  generalize r / 10 = b at *
  rw [w8 (n := (a : Int)) (by omega) (by omega), w8 (by omega) (by omega), w64 (by omega) (by omega), wi (by omega) (by omega)]
  rfl
theorem dig_inner {N : Nat} (K : List Int → List Int → Option (List UInt8 × Unit)) (q : Nat) : ∀ (d m r i : Nat) (acc : List Int), i + d = 9 → r < 10 ^ d → acc.length + (rd (q * 10 ^ d + r)).length ≤ 140737488355328 →
    ∃ t, t ++ rd q = rd (q * 10 ^ d + r) ∧ numtext_digits.l9 N K (m + d + 1) (lim q) (r : Int) (i : Int) acc = K (lim q) (acc ++ t)
  | 0, m, r, i, acc, hi, hr, hl => by
    have : r = 0 := by simpa using hr
    subst this
    refine ⟨[], by simp, ?_⟩
    show numtext_digits.p9 N K (numtext_digits.l9 N K (m + 0)) (lim q) _ (i : Int) acc = _
    unfold numtext_digits.p9
    rw [if_neg (by rw [decide_eq_true_eq]; omega), List.append_nil]
  | d + 1, m, r, i, acc, hi, hr, hl => by
    have hp : 10 ^ (d + 1) = 10 ^ d * 10 := Nat.pow_succ ..
    have hp9 : 10 ^ (d + 1) ≤ 10 ^ 9 := Nat.pow_le_pow_right (by omega) (by omega)
    have hr2 : r < 10000000000 := by
      have : (10 : Nat) ^ 9 = 1000000000 := by decide
      omega
    have hw : q * 10 ^ (d + 1) + r = (q * 10 ^ d) * 10 + r := by rw [hp, Nat.mul_assoc]
    show ∃ t, _ ∧ numtext_digits.p9 N K (numtext_digits.l9 N K (m + (d + 1))) (lim q) _ (i : Int) acc = _
    by_cases hz : q * 10 ^ (d + 1) + r = 0
    · have hq : q = 0 := by
        have : q * 10 ^ (d + 1) = 0 := by omega
        rcases Nat.mul_eq_zero.1 this with h | h
        · exact h
        · have := Nat.pow_pos (n := d + 1) (show 0 < 10 by omega); omega
      subst hq
      have hr0 : r = 0 := by omega
      subst hr0
      refine ⟨[], by simp, ?_⟩
      unfold numtext_digits.p9
      rw [if_pos (decide_eq_true (by omega)), if_neg (by rw [lim_zero]; simp), if_neg (by simp), List.append_nil]
    · have hrd := rd_pos (n := q * 10 ^ (d + 1) + r) (by omega)
      have hr3 : r / 10 < 10 ^ d := by rw [hp] at hr; omega
      rw [hrd] at hl
      rw [List.length_cons] at hl
      have ew : (q * 10 ^ (d + 1) + r) % 10 = r % 10 ∧ (q * 10 ^ (d + 1) + r) / 10 = q * 10 ^ d + r / 10 := by
        rw [hw]
        generalize q * 10 ^ d = Q at *
        omega
      rw [ew.1, ew.2] at hrd
      rw [ew.2] at hl
      obtain ⟨t, h1, h2⟩ := dig_inner (N := N) K q d m (r / 10) (i + 1) (acc ++ [((48 + r % 10 : Nat) : Int)]) (by omega) hr3 (by rw [List.length_append]; simp only [List.length_cons, List.length_nil]; omega)
      refine ⟨((48 + r % 10 : Nat) : Int) :: t, by rw [hrd, List.cons_append, h1], ?_⟩
      unfold numtext_digits.p9
      rw [if_pos (decide_eq_true (by omega))]
      have st := dig_step (N := N) (fun y4_51 y7_51 y9_51 yr3_51 => numtext_digits.l9 N K (m + (d + 1)) y4_51 y7_51 y9_51 yr3_51) (lim q) (r := r) (i := i) (acc := acc) hr2 (by omega) (by omega)
      have fin : numtext_digits.l9 N K (m + (d + 1)) (lim q) ((r / 10 : Nat) : Int) ((i + 1 : Nat) : Int) (acc ++ [((48 + r % 10 : Nat) : Int)]) = K (lim q) (acc ++ (((48 + r % 10 : Nat) : Int) :: t)) := by
        rw [show m + (d + 1) = m + d + 1 from rfl, h2, List.append_assoc]; rfl
      by_cases hq : q = 0
      · rw [if_neg (by rw [hq, lim_zero]; simp), if_pos (decide_eq_true (by subst hq; omega)), st]
        exact fin
      · have : (lim q).length ≠ 0 := fun h => hq (lim_len_zero.1 h)
        rw [if_pos (decide_eq_true (by omega)), st]
        exact fin
theorem dig_outer : ∀ (w : Nat), Sm w → ∃ k, Ev fun N => ∀ (K : List Int → Option (List UInt8 × Unit)) (m : Nat) (acc : List Int), acc.length + (rd w).length ≤ 140737488355328 → numtext_digits.l5 N K (m + k) (lim w) acc = K (acc ++ rd w) := by
  intro w
  induction w using Nat.strongRecOn with
  | ind w ih =>
    intro hw
    by_cases h0 : w = 0
    · subst h0
      refine ⟨1, Ev.of fun N K m acc _ => ?_⟩
      show numtext_digits.p5 N K (numtext_digits.l5 N K m) (lim 0) acc = _
      unfold numtext_digits.p5
      rw [lim_zero, if_neg (by simp), rd_zero, List.append_nil]
    · have hdl : w / 1000000000 < w := by omega
      have hml : w % 1000000000 < 1000000000 := Nat.mod_lt _ (by omega)
      have sd := hw.mono (Nat.le_of_lt hdl)
      obtain ⟨k, hk⟩ := ih _ hdl sd
      refine ⟨k + 1, ?_⟩
      have s9 : Sm 1000000000 := Sm.bits (b := 30) (by omega) (by omega)
      have fE := fromU_ok (v := 1000000000) (by omega) (by omega)
      have dE := divmod_ok hw.lim s9.lim (by rwa [V_lim]) (by rwa [V_lim])
      rw [V_lim, V_lim] at dE
      have uE := uint64_lim (n := w % 1000000000) (by omega)
      refine ((hk.and (Ev.ge 10)).and (fE.and (dE.and uE))).mono fun N ⟨⟨h1, hN⟩, h2, h3, h4⟩ K m acc ha => ?_
      show numtext_digits.p5 N K (numtext_digits.l5 N K (m + k)) (lim w) acc = _
      unfold numtext_digits.p5
      have hl : (lim w).length ≠ 0 := fun h => h0 (lim_len_zero.1 h)
      rw [if_pos (decide_eq_true (by omega)), h2]
      simp only [Option.bind_some]
      rw [show (1000000000 : Int).toNat = 1000000000 from rfl, h3, if_neg (by omega)]
      simp only [Option.bind_some]
      rw [h4]
      simp only [Option.bind_some]
      have e : w / 1000000000 * 10 ^ 9 + w % 1000000000 = w := by
        rw [show (10 : Nat) ^ 9 = 1000000000 by decide]; omega
      obtain ⟨t, t1, t2⟩ := dig_inner (N := N) (fun y4_53 yr3_53 => numtext_digits.l5 N K (m + k) y4_53 yr3_53) (w / 1000000000) 9 (N - 10) (w % 1000000000) 0 acc (by omega) (by rw [show (10 : Nat) ^ 9 = 1000000000 by decide]; exact hml) (by rw [e]; exact ha)
      rw [show N - 10 + 9 + 1 = N by omega] at t2
      rw [e] at t1
      show numtext_digits.l9 N _ N (lim (w / 1000000000)) ((w % 1000000000 : Nat) : Int) ((0 : Nat) : Int) acc = _
      rw [t2]
      have hlt : (t ++ rd (w / 1000000000)).length = (rd w).length := by rw [t1]
      rw [List.length_append] at hlt
      show numtext_digits.l5 N K (m + k) (lim (w / 1000000000)) (acc ++ t) = _
      rw [h1 K m (acc ++ t) (by rw [List.length_append]; omega), List.append_assoc, t1]
theorem rev_loop {N : Nat} (K : List Int → Option (List UInt8 × Unit)) (o : List Int) (hn : o.length < 4611686018427387904) : ∀ (d i m : Nat) (xs : List Int), i + d = o.length → xs.length = o.length → 2 * i ≤ o.length →
    (∀ p, p < o.length → xs.getD p 0 = if p < i ∨ o.length - i ≤ p then o.getD (o.length - 1 - p) 0 else o.getD p 0) →
    numtext_digits.l15 N K (m + d + 1) (i : Int) ((o.length : Int) - 1 - (i : Int)) xs = K o.reverse
  | d, i, m, xs, hi, hx, h2, he => by
    show numtext_digits.p15 N K (numtext_digits.l15 N K (m + d)) (i : Int) _ xs = _
    unfold numtext_digits.p15
    by_cases hc : (i : Int) < (o.length : Int) - 1 - (i : Int)
    · obtain ⟨d, rfl⟩ : ∃ e, d = e + 1 := ⟨d - 1, by omega⟩
      obtain ⟨j, hj⟩ : ∃ j : Nat, j = o.length - 1 - i := ⟨_, rfl⟩
      have ej : (o.length : Int) - 1 - (i : Int) = (j : Int) := by omega
      rw [ej] at hc ⊢
      rw [if_pos (decide_eq_true hc), if_pos (by omega), if_pos (by omega), if_pos (by omega), if_pos (by rw [List.length_set]; omega), i2n, i2n, wi (by omega) (by omega), wi (by omega) (by omega), cast1]
      have := rev_loop (N := N) K o hn d (i + 1) m ((xs.set i (xs.getD j 0)).set j (xs.getD i 0)) (by omega) (by rw [List.length_set, List.length_set]; exact hx) (by omega) fun p hp => by
        by_cases hpj : j = p
        · subst hpj
          rw [lset_self (by rw [List.length_set]; omega), if_pos (by omega), he i (by omega), if_neg (by omega)]
          congr 1; omega
        · rw [lset_ne hpj]
          by_cases hpi : i = p
          · subst hpi
            rw [lset_self (by omega), if_pos (by omega), he j (by omega), if_neg (by omega), hj]
          · rw [lset_ne hpi, he p hp]
            by_cases hq : p < i ∨ o.length - i ≤ p
            · rw [if_pos hq, if_pos (by omega)]
            · rw [if_neg hq, if_neg (by omega)]
      rw [show (o.length : Int) - 1 - ((i + 1 : Nat) : Int) = (j : Int) - 1 by omega] at this
      exact this
    · rw [if_neg (by rw [decide_eq_true_eq]; exact hc)]
      congr 1
      apply List.ext_getElem (by rw [hx, List.length_reverse])
      intro p h1 h3
      rw [List.getElem_reverse, ← lin h1, he p (by omega)]
      split
      · rw [lin (by omega)]
      · rw [lin (show p < o.length by omega)]
        congr 1; omega
theorem digits_ok {a : List Int} (h : L a) (hs : Sm (val a)) : Ev fun N => numtext_digits.f N a = some (dig (val a), ()) := by
  obtain ⟨k, hk⟩ := dig_outer (val a) hs
  refine (((trim_ok h hs).and hk).and (Ev.ge ((rd (val a)).length + 1 + k))).mono fun N ⟨⟨h1, h2⟩, h3⟩ => ?_
  unfold numtext_digits.f
  rw [h1]
  simp only [Option.bind_some]
  have hl := rd_sm hs
  unfold dig
  by_cases h0 : val a = 0
  · rw [if_pos (by rw [h0, lim_zero]; rfl), if_pos h0]
  · rw [if_neg h0, if_neg (by rw [decide_eq_true_eq]; intro h; exact h0 (lim_len_zero.1 (by omega)))]
    have := h2 (fun yr3_54 => numtext_digits.l15 N (fun yr3_56 => some ((yr3_56.map fun n => UInt8.ofNat n.toNat), ())) N 0 (IntKind.wrap .i64 ((yr3_54.length : Int) - 1)) yr3_54) (N - k) [] (by simp only [List.length_nil]; omega)
    rw [show N - k + k = N by omega] at this
    rw [this, List.nil_append]
    have hp : 0 < (rd (val a)).length := by rw [rd_pos (by omega)]; simp
    rw [wi (by omega) (by omega)]
    have r := rev_loop (N := N) (fun yr3_56 => some ((yr3_56.map fun n => UInt8.ofNat n.toNat), ())) (rd (val a)) (by omega) (rd (val a)).length 0 (N - ((rd (val a)).length + 1)) (rd (val a)) (by omega) rfl (by omega) fun p hp => by rw [if_neg (by omega)]
    rw [show N - ((rd (val a)).length + 1) + (rd (val a)).length + 1 = N by omega, show (((rd (val a)).length : Int) - 1 - ((0 : Nat) : Int)) = ((rd (val a)).length : Int) - 1 by omega] at r
    exact r
theorem formatInt_ok {p : Bool × List Int} (h : L p.2) (hs : Sm (val p.2)) : Ev fun N => numtext_FormatInt.f N p = some ((if iv p < 0 then [45] else []) ++ dig (iv p).natAbs, ()) := by
  refine ((sign_ok h).and (digits_ok h hs)).mono fun N ⟨h1, h2⟩ => ?_
  unfold numtext_FormatInt.f
  rw [h1, iv_abs]
  simp only [Option.bind_some]
  rw [h2]
  simp only [Option.bind_some]
  by_cases hn : iv p < 0
  · have := (dig_len hs).2
    rw [sgn_neg hn, if_pos (by decide), if_pos hn, if_pos (by simp only [List.length_cons, List.length_nil]; omega)]
  · rw [if_neg hn, List.nil_append, if_neg]
    unfold sgn
    rw [if_neg hn]
    split <;> decide
end Go.Proofs.YtkadllkeekoopaaGreat.Abs.T
end

section
namespace Go.Proofs.YtkadllkeekoopaaGreat.Abs.T
open Go.Proofs.YtkadllkeekoopaaGreat.Abs.Ints Go.Proofs.YtkadllkeekoopaaGreat.Abs.BN
set_option maxRecDepth 10000

/-! ## The reading of texts of digits -/
def isD (c : UInt8) : Bool := decide (48 ≤ c.toNat) && decide (c.toNat ≤ 57)
def adB (s : List UInt8) : Bool := s.all isD
def AS (s : List UInt8) : Prop := ∀ c ∈ s, c.toNat < 128
def plB (s : List UInt8) : Bool := adB s && (match s with | [] => false | c :: r => !decide (c.toNat = 48) || r.isEmpty)
def sgT (s : List UInt8) : Bool × List UInt8 := match s with | [] => (false, []) | c :: r => if c.toNat = 45 then (true, r) else (false, c :: r)
def nuB (s : List UInt8) : Bool := plB (sgT s).2 && (!(sgT s).1 || !((sgT s).2 == [48]))
def cnt (s : List UInt8) : Nat := s.countP isD
theorem isD_iff {c : UInt8} : isD c = true ↔ 48 ≤ c.toNat ∧ c.toNat ≤ 57 := by simp [isD]
theorem adB_iff {s : List UInt8} : adB s = true ↔ ∀ c ∈ s, 48 ≤ c.toNat ∧ c.toNat ≤ 57 := by
  unfold adB
  rw [List.all_eq_true]
  exact ⟨fun h c hc => isD_iff.1 (h c hc), fun h c hc => isD_iff.2 (h c hc)⟩
theorem cin {a : List UInt8} {i : Nat} (h : i < a.length) : a.getD i 0 = a[i] := by
  rw [List.getD_eq_getElem?_getD, List.getElem?_eq_getElem h]; rfl
theorem dec_ascii {s : List UInt8} {p : Nat} (h : p < s.length) (hc : (s.getD p 0).toNat < 128) : Go.Proofs.YtkadllkeekoopaaGreat.Abs.dec s p = ((s.getD p 0).toNat, 1) := by
  have e : ByteArray.get! ⟨s.toArray⟩ (p + 0) = s.getD p 0 := by
    show s.toArray[p]! = _
    rw [cin h]
    simp [h]
  have hc' : (ByteArray.get! ⟨s.toArray⟩ (p + 0)).toNat < 128 := by rw [e]; exact hc
  have : Go.Proofs.YtkadllkeekoopaaGreat.Abs.dec s p = ((ByteArray.get! ⟨s.toArray⟩ (p + 0)).toNat, 1) := if_pos hc'
  rw [this, e]
theorem allD_loop {N : Nat} (K : List UInt8 → Option (Bool × Unit)) (x0 s : List UInt8) (ha : AS s) : ∀ (d i m : Nat), i + d = s.length → numtext_allDigits.l2 N K (m + d + 1) x0 s i = if adB (s.drop i) then K x0 else some (false, ())
  | 0, i, m, hi => by
    show numtext_allDigits.p2 N K (numtext_allDigits.l2 N K (m + 0)) x0 s i = _
    unfold numtext_allDigits.p2
    rw [if_neg (by omega), List.drop_of_length_le (by omega)]
    rfl
  | d + 1, i, m, hi => by
    show numtext_allDigits.p2 N K (numtext_allDigits.l2 N K (m + (d + 1))) x0 s i = _
    unfold numtext_allDigits.p2 numtext_allDigits.q10000005
    have hl : i < s.length := by omega
    have hc : (s.getD i 0).toNat < 128 := by rw [cin hl]; exact ha _ (List.getElem_mem hl)
    have ih := allD_loop (N := N) K x0 s ha d (i + 1) m (by omega)
    rw [if_pos hl, dec_ascii hl hc]
    have es : s.drop i = s.getD i 0 :: s.drop (i + 1) := by rw [List.drop_eq_getElem_cons hl, cin hl]
    have ea : adB (s.drop i) = (isD (s.getD i 0) && adB (s.drop (i + 1))) := by rw [es]; rfl
    rw [ea]
    generalize s.getD i 0 = c at *
    dsimp only
    by_cases h1 : ((c.toNat : Nat) : Int) < 48
    · rw [if_pos (decide_eq_true h1), if_pos rfl]
      have : isD c = false := by rw [Bool.eq_false_iff]; intro h; have := isD_iff.1 h; omega
      rw [this]; rfl
    · rw [if_neg (by rw [decide_eq_true_eq]; exact h1)]
      by_cases h2 : (57 : Int) < ((c.toNat : Nat) : Int)
      · rw [if_pos (decide_eq_true h2)]
        have : isD c = false := by rw [Bool.eq_false_iff]; intro h; have := isD_iff.1 h; omega
        rw [this]; rfl
      · rw [if_neg (by rw [decide_eq_true_eq]; exact h2)]
        have : isD c = true := isD_iff.2 ⟨by omega, by omega⟩
        rw [this, Bool.true_and]
        exact ih
theorem allD_ok {s : List UInt8} (ha : AS s) : Ev fun N => numtext_allDigits.f N s = some (adB s && !(s == []), ()) := by
  refine (Ev.ge (s.length + 1)).mono fun N hN => ?_
  unfold numtext_allDigits.f
  have := allD_loop (N := N) (fun y0_9 => some (!(y0_9 == ([] : List UInt8)), ())) s s ha s.length 0 (N - (s.length + 1)) (by omega)
  rw [show N - (s.length + 1) + s.length + 1 = N by omega] at this
  rw [this, List.drop_zero]
  cases adB s <;> rfl
theorem plain_ok {s : List UInt8} (ha : AS s) : Ev fun N => numtext_plain.f N s = some (plB s, ()) := by
  refine (allD_ok ha).mono fun N h1 => ?_
  unfold numtext_plain.f
  rw [h1]
  simp only [Option.bind_some]
  cases s with
  | nil => rfl
  | cons c r =>
    unfold plB
    cases hd : adB (c :: r) with
    | false => rw [if_neg (by simp)]; rfl
    | true =>
      rw [if_pos (by simp), if_pos (by simp only [List.length_cons]; omega)]
      show (if (!decide (((c.toNat : Nat) : Int) = 48)) = true then _ else _) = _
      by_cases h : c.toNat = 48
      · rw [if_neg (by simp; omega)]
        dsimp only
        rw [decide_eq_true h]
        cases r with
        | nil => rfl
        | cons x y => rw [decide_eq_false (by simp only [List.length_cons]; omega)]; rfl
      · rw [if_pos (by simp; omega)]
        dsimp only
        rw [decide_eq_false h]; rfl
theorem sgT_ok (N : Nat) (s : List UInt8) : numtext_sign.f N s = some ((sgT s).1, (sgT s).2, ()) := by
  unfold numtext_sign.f
  cases s with
  | nil => rfl
  | cons c r =>
    rw [if_pos (by simp), if_pos (by simp only [List.length_cons]; omega)]
    unfold numtext_sign.q10000002 sgT
    show (if decide (((c.toNat : Nat) : Int) = 45) = true then _ else _) = _
    by_cases h : c.toNat = 45
    · rw [if_pos (decide_eq_true (by omega)), if_pos (by simp only [List.length_cons]; omega)]
      simp only [h, if_true]
      rfl
    · rw [if_neg (by rw [decide_eq_true_eq]; omega)]
      simp only [h, if_false]
      rfl
theorem sgT_mem {s : List UInt8} : ∀ c ∈ (sgT s).2, c ∈ s := by
  intro c hc
  cases s with
  | nil => exact hc
  | cons x r =>
    by_cases h : x.toNat = 45
    · have : sgT (x :: r) = (true, r) := by unfold sgT; simp only [h, if_true]
      rw [this] at hc; exact List.mem_cons_of_mem _ hc
    · have : sgT (x :: r) = (false, x :: r) := by unfold sgT; simp only [h, if_false]
      rw [this] at hc; exact hc
theorem isNumber_ok {s : List UInt8} (ha : AS s) : Ev fun N => numtext_isNumber.f N s = some (nuB s, ()) := by
  refine (plain_ok (s := (sgT s).2) fun c hc => ha c (sgT_mem c hc)).mono fun N h1 => ?_
  unfold numtext_isNumber.f
  rw [sgT_ok]
  simp only [Option.bind_some]
  rw [h1]
  simp only [Option.bind_some]
  unfold nuB
  cases plB (sgT s).2 <;> cases (sgT s).1 <;> rfl
theorem count_loop {N : Nat} (K : Int → Option (Int × Unit)) (s : List UInt8) (hn : s.length < 4611686018427387904) : ∀ (d i m c : Nat), i + d = s.length → c ≤ i → numtext_count.l3 N K (m + d + 1) s (c : Int) (i : Int) = K ((c + cnt (s.drop i) : Nat) : Int)
  | 0, i, m, c, hi, hc => by
    show numtext_count.p3 N K (numtext_count.l3 N K (m + 0)) s (c : Int) (i : Int) = _
    unfold numtext_count.p3
    rw [if_neg (by rw [decide_eq_true_eq]; omega), List.drop_of_length_le (by omega)]
    rfl
  | d + 1, i, m, c, hi, hc => by
    show numtext_count.p3 N K (numtext_count.l3 N K (m + (d + 1))) s (c : Int) (i : Int) = _
    unfold numtext_count.p3 numtext_count.q10000006 numtext_count.q4
    have hl : i < s.length := by omega
    have ih0 := count_loop (N := N) K s hn d (i + 1) m c (by omega) (by omega)
    have ih1 := count_loop (N := N) K s hn d (i + 1) m (c + 1) (by omega) (by omega)
    have es : s.drop i = s.getD i 0 :: s.drop (i + 1) := by rw [List.drop_eq_getElem_cons hl, cin hl]
    have ec : cnt (s.drop i) = cnt (s.drop (i + 1)) + if isD (s.getD i 0) then 1 else 0 := by rw [es]; exact List.countP_cons
    rw [if_pos (decide_eq_true (by omega)), if_pos (by omega), i2n]
    dsimp only
    rw [wi (n := (i : Int) + 1) (by omega) (by omega), wi (n := (c : Int) + 1) (by omega) (by omega), cast1, cast1, ec]
    have hin : (0 : Int) ≤ (i : Int) ∧ (i : Int) < (s.length : Int) := by omega
    simp only [hin, and_self, if_true]
    generalize s.getD i 0 = x at *
    have no : isD x = false → numtext_count.l3 N K (m + (d + 1)) s (c : Int) ((i + 1 : Nat) : Int) = K ((c + (cnt (s.drop (i + 1)) + if isD x = true then 1 else 0) : Nat) : Int) := fun h => by
      rw [h]
      exact ih0
    by_cases h1 : (48 : Int) ≤ ((x.toNat : Nat) : Int)
    · rw [if_pos (decide_eq_true h1)]
      by_cases h2 : ((x.toNat : Nat) : Int) ≤ 57
      · rw [if_pos (decide_eq_true h2), isD_iff.2 ⟨by omega, by omega⟩, if_pos rfl, show c + (cnt (s.drop (i + 1)) + 1) = c + 1 + cnt (s.drop (i + 1)) by omega]
        exact ih1
      · rw [if_neg (by rw [decide_eq_true_eq]; exact h2)]
        exact no (by rw [Bool.eq_false_iff]; intro h; have := isD_iff.1 h; omega)
    · rw [if_neg (by rw [decide_eq_true_eq]; exact h1), if_neg (by simp)]
      exact no (by rw [Bool.eq_false_iff]; intro h; have := isD_iff.1 h; omega)
theorem count_ok {s : List UInt8} (hn : s.length < 4611686018427387904) : Ev fun N => numtext_count.f N s = some (((cnt s : Nat) : Int), ()) := by
  refine (Ev.ge (s.length + 1)).mono fun N hN => ?_
  unfold numtext_count.f
  have := count_loop (N := N) (fun y3_17 => some (y3_17, ())) s hn s.length 0 (N - (s.length + 1)) 0 (by omega) (by omega)
  rw [show N - (s.length + 1) + s.length + 1 = N by omega, List.drop_zero, Nat.zero_add] at this
  exact this

/-! ## Numbers from texts -/
theorem num_lin : ∀ (s : List UInt8) (v : Nat), num s v = v * 10 ^ s.length + num s 0
  | [], v => by simp [num]
  | c :: r, v => by
    show num r (10 * v + (c.toNat - 48)) = v * 10 ^ (r.length + 1) + num r (10 * 0 + (c.toNat - 48))
    rw [num_lin r, num_lin r (10 * 0 + _), Nat.pow_succ, Nat.mul_zero, Nat.zero_add, Nat.add_mul, show v * (10 ^ r.length * 10) = 10 * v * 10 ^ r.length by rw [Nat.mul_comm (10 ^ r.length), ← Nat.mul_assoc, Nat.mul_comm v 10]]
    omega
theorem num_ge (s : List UInt8) (v : Nat) : v ≤ num s v := by
  rw [num_lin]
  have := Nat.le_mul_of_pos_right v (Nat.pow_pos (n := s.length) (show 0 < 10 by omega))
  omega
theorem num_lt : ∀ {s : List UInt8}, adB s = true → num s 0 < 10 ^ s.length
  | [], _ => by decide
  | c :: r, h => by
    have hc := adB_iff.1 h c (List.mem_cons_self ..)
    have hr : adB r = true := adB_iff.2 fun x hx => adB_iff.1 h x (List.mem_cons_of_mem _ hx)
    have ih := num_lt hr
    show num r (10 * 0 + (c.toNat - 48)) < 10 ^ (r.length + 1)
    rw [num_lin, Nat.mul_zero, Nat.zero_add, Nat.pow_succ]
    have : (c.toNat - 48) * 10 ^ r.length ≤ 9 * 10 ^ r.length := Nat.mul_le_mul_right _ (by omega)
    omega
theorem num_take {s : List UInt8} {i : Nat} (h : i < s.length) : num (s.take (i + 1)) 0 = 10 * num (s.take i) 0 + ((s.getD i 0).toNat - 48) := by
  rw [← List.take_append_getElem h, num_app, cin h]
  rfl
theorem number_in {N : Nat} (K : List UInt8 → List Int → Int → Int → Int → Option (List Int × Unit)) (s : List UInt8) (ha : adB s = true) (x3 : List Int) (x4 : Int) (k : Nat) (hk : k ≤ s.length) (hk9 : k ≤ 9) : ∀ (d i m : Nat), i + d = k →
    numtext_number.l6 N K (m + d + 1) s x3 x4 ((num (s.take i) 0 : Nat) : Int) ((10 ^ i : Nat) : Int) (k : Int) (i : Int) = K s x3 x4 ((num (s.take k) 0 : Nat) : Int) ((10 ^ k : Nat) : Int)
  | 0, i, m, hi => by
    show numtext_number.p6 N K (numtext_number.l6 N K (m + 0)) s x3 x4 _ _ (k : Int) (i : Int) = _
    unfold numtext_number.p6
    have : i = k := by omega
    subst this
    rw [if_neg (by rw [decide_eq_true_eq]; omega)]
  | d + 1, i, m, hi => by
    show numtext_number.p6 N K (numtext_number.l6 N K (m + (d + 1))) s x3 x4 _ _ (k : Int) (i : Int) = _
    unfold numtext_number.p6
    have hl : i < s.length := by omega
    have ih := number_in (N := N) K s ha x3 x4 k hk hk9 d (i + 1) m (by omega)
    rw [num_take hl, Nat.pow_succ] at ih
    have hc := adB_iff.1 ha (s.getD i 0) (by rw [cin hl]; exact List.getElem_mem hl)
    have hlt : num (s.take i) 0 < 10 ^ i := by
      have := num_lt (s := s.take i) (adB_iff.2 fun c h => adB_iff.1 ha c (List.mem_of_mem_take h))
      rwa [List.length_take, Nat.min_eq_left (by omega)] at this
    have hp : 10 ^ i ≤ 10 ^ 9 := Nat.pow_le_pow_right (by omega) (by omega)
    rw [show (10 : Nat) ^ 9 = 1000000000 by decide] at hp
    rw [if_pos (decide_eq_true (by omega)), if_pos (by omega), i2n, wi (by omega) (by omega), cast1]
    generalize s.getD i 0 = x at *
    generalize num (s.take i) 0 = v at *
    generalize 10 ^ i = P at *
    rw [w8 (n := ((x.toNat : Nat) : Int) - 48) (by omega) (by omega), w64 (n := ((x.toNat : Nat) : Int) - 48) (by omega) (by omega), w64 (n := 10 * (v : Int)) (by omega) (by omega), w64 (n := 10 * (v : Int) + _) (by omega) (by omega), w64 (n := (P : Int) * 10) (by omega) (by omega)]
    rw [show 10 * (v : Int) + (((x.toNat : Nat) : Int) - 48) = ((10 * v + (x.toNat - 48) : Nat) : Int) by omega]
    exact ih
theorem number_out : ∀ (n : Nat) (s : List UInt8), s.length = n → adB s = true → ∀ v, Sm (num s v) → ∃ k, Ev fun N => ∀ (K : List Int → Option (List Int × Unit)) (m : Nat), numtext_number.l2 N K (m + k) s (lim v) = K (lim (num s v)) := by
  intro n
  induction n using Nat.strongRecOn with
  | ind n ih =>
    intro s hs ha v hv
    by_cases h0 : n = 0
    · have : s = [] := List.length_eq_zero_iff.1 (by omega)
      subst this
      refine ⟨1, Ev.of fun N K m => ?_⟩
      show numtext_number.p2 N K (numtext_number.l2 N K m) [] (lim v) = _
      unfold numtext_number.p2
      rw [if_neg (by simp)]
      rfl
    · obtain ⟨j, hj⟩ : ∃ j, j = min 9 s.length := ⟨_, rfl⟩
      have hj1 : 0 < j := by omega
      have ht : adB (s.take j) = true := adB_iff.2 fun c h => adB_iff.1 ha c (List.mem_of_mem_take h)
      have hd : adB (s.drop j) = true := adB_iff.2 fun c h => adB_iff.1 ha c (List.mem_of_mem_drop h)
      have hsp : num s v = num (s.drop j) (num (s.take j) v) := by rw [← num_app, List.take_append_drop]
      have hlin := num_lin (s.take j) v
      have hlen : (s.take j).length = j := by rw [List.length_take]; omega
      rw [hlen] at hlin
      have hlt := num_lt ht
      rw [hlen] at hlt
      have hp : 10 ^ j ≤ 10 ^ 9 := Nat.pow_le_pow_right (by omega) (by omega)
      rw [show (10 : Nat) ^ 9 = 1000000000 by decide] at hp
      have hge := num_ge (s.drop j) (num (s.take j) v)
      rw [← hsp] at hge
      obtain ⟨k, hk⟩ := ih (s.drop j).length (by rw [List.length_drop]; omega) (s.drop j) rfl hd (num (s.take j) v) (by rw [← hsp]; exact hv)
      refine ⟨k + 1, ?_⟩
      have hpp : 0 < 10 ^ j := Nat.pow_pos (by omega)
      have hvm : v ≤ v * 10 ^ j := Nat.le_mul_of_pos_right v hpp
      have s1 : Sm v := hv.mono (by omega)
      have s2 : Sm (v * 10 ^ j) := hv.mono (by omega)
      have s3 : Sm (10 ^ j) := Sm.bits (b := 30) (by omega) (by omega)
      have s4 : Sm (num (s.take j) 0) := Sm.bits (b := 30) (by omega) (by omega)
      have fE := fromU_ok (v := ((10 ^ j : Nat) : Int)) (by omega) (by omega)
      have gE := fromU_ok (v := ((num (s.take j) 0 : Nat) : Int)) (by omega) (by omega)
      have mE := mul_ok s1.lim s3.lim (by rwa [V_lim]) (by rwa [V_lim])
      rw [V_lim, V_lim] at mE
      have aE := add_ok s2.lim s4.lim (by rwa [V_lim]) (by rwa [V_lim])
      rw [V_lim, V_lim, ← hlin] at aE
      refine (((hk.and (Ev.ge 10)).and (fE.and gE)).and (mE.and aE)).mono fun N ⟨⟨⟨h1, hN⟩, h2, h3⟩, h4, h5⟩ K m => ?_
      show numtext_number.p2 N K (numtext_number.l2 N K (m + k)) s (lim v) = _
      unfold numtext_number.p2
      have ej : (min 9 (s.length : Int)) = (j : Int) := by omega
      rw [if_pos (decide_eq_true (by omega)), ej]
      have := number_in (N := N) (fun y0_20 y3_20 y4_20 y5_20 y6_20 => (natural_FromUint64.f N y6_20).bind fun t22 => ((natural_Mul.f N y3_20 t22.1).bind fun t23 => ((natural_FromUint64.f N y5_20).bind fun t24 => ((natural_Add.f N t23.1 t24.1).bind fun t25 => (if (0 : Int) ≤ y4_20 ∧ y4_20 ≤ (y0_20.length : Int) then (numtext_number.l2 N K (m + k) (y0_20.drop ((y4_20 : Int).toNat)) t25.1) else none))))) s ha (lim v) (j : Int) j (by omega) (by omega) j 0 (N - (j + 1)) (by omega)
      rw [show N - (j + 1) + j + 1 = N by omega, List.take_zero] at this
      refine Eq.trans this ?_
      rw [Int.toNat_natCast] at h2 h3
      rw [h2]
      simp only [Option.bind_some]
      rw [h4]
      simp only [Option.bind_some]
      rw [h3]
      simp only [Option.bind_some]
      rw [h5]
      simp only [Option.bind_some]
      rw [if_pos (by omega), i2n, h1 K m, hsp]
theorem number_ok {s : List UInt8} (ha : adB s = true) (hv : Sm (num s 0)) : Ev fun N => numtext_number.f N s = some (lim (num s 0), ()) := by
  obtain ⟨k, hk⟩ := number_out s.length s rfl ha 0 hv
  refine (hk.and (Ev.ge k)).mono fun N ⟨h1, h2⟩ => ?_
  unfold numtext_number.f
  have := h1 (fun y3_25 => some (y3_25, ())) (N - k)
  rw [show N - k + k = N by omega, lim_zero] at this
  exact this
theorem whole_ok {s : List UInt8} (ha : adB (sgT s).2 = true) (hv : Sm (num (sgT s).2 0)) : Ev fun N => numtext_whole.f N s = some (I (sgz (sgT s).1 (num (sgT s).2 0)), ()) := by
  have nE := inorm_ok (p := ((sgT s).1, lim (num (sgT s).2 0))) hv.lim (by rwa [V_lim])
  refine ((number_ok ha hv).and nE).mono fun N ⟨h1, h2⟩ => ?_
  unfold numtext_whole.f
  rw [sgT_ok]
  simp only [Option.bind_some]
  rw [h1]
  simp only [Option.bind_some]
  rw [h2]
  simp only [Option.bind_some]
  unfold iv sgz
  rw [V_lim]
theorem parseInt_ok {s : List UInt8} (ha : AS s) (hn : s.length < 4611686018427387904) (hnu : nuB s = true) (hc : cnt s ≤ 4096) (hv : Sm (num (sgT s).2 0)) : Ev fun N => numtext_ParseInt.f N s = some (I (sgz (sgT s).1 (num (sgT s).2 0)), 0, ()) := by
  have had : adB (sgT s).2 = true := by
    unfold nuB plB at hnu
    simp only [Bool.and_eq_true] at hnu
    exact hnu.1.1
  refine (((isNumber_ok ha).and (count_ok hn)).and (whole_ok had hv)).mono fun N ⟨⟨h1, h2⟩, h3⟩ => ?_
  unfold numtext_ParseInt.f
  rw [h1, hnu]
  simp only [Option.bind_some, Bool.not_true, Bool.false_eq_true, if_false]
  rw [h2]
  simp only [Option.bind_some]
  rw [if_neg (by rw [decide_eq_true_eq]; omega), h3]
  rfl

/-! ## The text of a number -/
def intT (z : Int) : List UInt8 := (if z < 0 then [45] else []) ++ dig z.natAbs
theorem adB_dig (n : Nat) : adB (dig n) = true := adB_iff.2 fun c hc => dig_in' c hc
theorem sgT_int (z : Int) : sgT (intT z) = (decide (z < 0), dig z.natAbs) := by
  unfold intT
  by_cases h : z < 0
  · rw [if_pos h, decide_eq_true h]; rfl
  · rw [if_neg h, decide_eq_false h, List.nil_append]
    obtain ⟨c, r, e, h1, h2, _⟩ := dig_first z.natAbs
    rw [e]
    unfold sgT
    have : c.toNat ≠ 45 := by omega
    simp only [this, if_false]
theorem nuB_int (z : Int) : nuB (intT z) = true := by
  unfold nuB
  rw [sgT_int]
  obtain ⟨c, r, e, h1, h2, h3, h4⟩ := dig_first z.natAbs
  have hp : plB (dig z.natAbs) = true := by
    unfold plB
    rw [adB_dig, e, Bool.true_and]
    by_cases h0 : z.natAbs = 0
    · have := h3 h0
      injection this with _ hr
      subst hr
      simp
    · simp [h4 h0]
  rw [hp, Bool.true_and]
  dsimp only
  by_cases h : z < 0
  · rw [decide_eq_true h, e]
    have := h4 (by omega)
    simp only [Bool.not_true, Bool.false_or]
    rw [Bool.not_eq_true', beq_eq_false_iff_ne]
    intro h
    injection h with h _
    subst h
    exact this rfl
  · rw [decide_eq_false h]; rfl
theorem AS_int (z : Int) : AS (intT z) := by
  intro c hc
  unfold intT at hc
  rcases List.mem_append.1 hc with h | h
  · split at h
    · rw [List.mem_singleton.1 h]; decide
    · cases h
  · have := dig_in' c h; omega
theorem cnt_int (z : Int) : cnt (intT z) = (dig z.natAbs).length := by
  unfold cnt intT
  rw [List.countP_append]
  have : (dig z.natAbs).countP isD = (dig z.natAbs).length := List.countP_eq_length.2 fun c hc => isD_iff.2 (dig_in' c hc)
  rw [this]
  split <;> simp [isD]
theorem sgz_int (z : Int) : sgz (decide (z < 0)) z.natAbs = z := by
  unfold sgz
  by_cases h : z < 0
  · rw [decide_eq_true h, if_pos rfl]; omega
  · rw [decide_eq_false h, if_neg (by decide)]; omega
theorem parse_int {z : Int} (hz : SmI z) (hc : (dig z.natAbs).length ≤ 4096) : Ev fun N => numtext_ParseInt.f N (intT z) = some (I z, 0, ()) := by
  have := parseInt_ok (s := intT z) (AS_int z) (by
    unfold intT
    rw [List.length_append]
    split <;> simp only [List.length_cons, List.length_nil] <;> omega) (nuB_int z) (by rw [cnt_int]; exact hc) (by rw [sgT_int, num_dig]; exact hz)
  rw [sgT_int] at this
  dsimp only at this
  rw [num_dig, sgz_int] at this
  exact this
end Go.Proofs.YtkadllkeekoopaaGreat.Abs.T
end

section
namespace Go.Proofs.YtkadllkeekoopaaGreat.Abs.T
open Go.Proofs.YtkadllkeekoopaaGreat.Abs.Ints Go.Proofs.YtkadllkeekoopaaGreat.Abs.BN
set_option maxRecDepth 10000

theorem u32_of {x : Int} (h : (Lit.int .u32 x).wf = true) : 0 ≤ x ∧ x < 4294967296 := by
  simp [Lit.wf, IntKind.min, IntKind.max, IntKind.signed, IntKind.bits] at h
  omega
theorem Sm_len {v k : Nat} (h : v < 4294967296 ^ k) (hk : k ≤ 1099511627776) : Sm v := Nat.le_trans (lim_len_le h) hk
theorem Sm_dbl {v k : Nat} (h : v < 4294967296 ^ k) (hk : k ≤ 1099511627775) : Sm (2 * (v + 1)) := by
  refine Sm_len (k := k + 1) ?_ (by omega)
  rw [Nat.pow_succ]
  generalize 4294967296 ^ k = P at *
  omega
theorem arg_list {a : List Int} (h : goodR (some 1048576) (.sl (.int .u32)) a) : L a ∧ Sm (2 * (val a + 1)) := by
  obtain ⟨_, ⟨_, h2⟩, h3⟩ := h
  have h2 : a.length ≤ 1048576 := h2
  have hu : U a := fun x hx => u32_of (h3 x hx)
  exact ⟨⟨hu, by omega⟩, Sm_dbl (V_lt hu) (by omega)⟩
def ratT (n : Int) (d : Nat) : List UInt8 := if d / Nat.gcd n.natAbs d = 1 then intT' (n / (Nat.gcd n.natAbs d : Int)) else (intT' (n / (Nat.gcd n.natAbs d : Int)) ++ [47]) ++ dig (d / Nat.gcd n.natAbs d)
  where intT' (z : Int) : List UInt8 := (if z < 0 then [45] else []) ++ dig z.natAbs
theorem intT_len {z : Int} (h : Sm z.natAbs) : (ratT.intT' z).length ≤ 17592186044417 := by
  unfold ratT.intT'
  have := (dig_len h).2
  rw [List.length_append]
  split <;> simp only [List.length_cons, List.length_nil] <;> omega
theorem div_abs_le (n : Int) (g : Nat) : (n / (g : Int)).natAbs ≤ n.natAbs + 1 := by
  rcases Nat.eq_zero_or_pos g with h0 | h0
  · subst h0; simp
  · have e1 := Int.mul_ediv_add_emod n (g : Int)
    have e2 := Int.emod_nonneg n (b := (g : Int)) (by omega)
    have e3 := Int.emod_lt_of_pos n (b := (g : Int)) (by omega)
    generalize n / (g : Int) = q at *
    generalize n % (g : Int) = r at *
    rcases Int.lt_or_le q 0 with hq | hq
    · have : (g : Int) * q ≤ 1 * q := Int.mul_le_mul_of_nonpos_right (by omega) (by omega)
      have : n < (g : Int) * (q + 1) := by rw [Int.mul_add, Int.mul_one]; omega
      have : (g : Int) * (q + 1) ≤ 1 * (q + 1) := Int.mul_le_mul_of_nonpos_right (by omega) (by omega)
      omega
    · have : 1 * q ≤ (g : Int) * q := Int.mul_le_mul_of_nonneg_right (by omega) hq
      omega
theorem rn_abs (p : (Bool × List Int) × List Int) : (rn p).natAbs ≤ val p.1.2 := by
  unfold rn
  split
  · simp
  · rw [iv_abs]; exact Nat.le_refl _
theorem rdn_le (p : (Bool × List Int) × List Int) : rdn p ≤ val p.2 + 1 := by
  unfold rdn
  split <;> omega
theorem rdn_pos (p : (Bool × List Int) × List Int) : 0 < rdn p := by
  unfold rdn
  split <;> omega
section
variable {p : (Bool × List Int) × List Int} (hp : L p.1.2) (hq : L p.2) (sp : Sm (2 * (val p.1.2 + 1))) (sq : Sm (2 * (val p.2 + 1)))
include hp hq sp sq
theorem formatRat_ok : Ev fun N => numtext_FormatRat.f N p = some (ratT (rn p) (rdn p), ()) := by
  obtain ⟨x, hx⟩ : ∃ x, x = rn p / (Nat.gcd (rn p).natAbs (rdn p) : Int) := ⟨_, rfl⟩
  obtain ⟨y, hy⟩ : ∃ y, y = rdn p / Nat.gcd (rn p).natAbs (rdn p) := ⟨_, rfl⟩
  have sx : Sm x.natAbs := sp.mono (by have := div_abs_le (rn p) (Nat.gcd (rn p).natAbs (rdn p)); rw [← hx] at this; have := rn_abs p; omega)
  have sy : Sm y := sq.mono (by have := Nat.div_le_self (rdn p) (Nat.gcd (rn p).natAbs (rdn p)); rw [← hy] at this; have := rdn_le p; omega)
  have n1 := qnorm_ok hp hq (sp.mono (by omega)) (sq.mono (by omega))
  have b1 := bits_ok sy.lim
  rw [V_lim] at b1
  have f1 := formatInt_ok (p := I x) (I_L sx) (by rwa [I_V])
  rw [iv_I] at f1
  have d1 := digits_ok (a := lim y) sy.lim (by rwa [V_lim])
  rw [V_lim] at d1
  have hl1 := intT_len sx
  have hl2 := (dig_len sy).2
  refine ((n1.and b1).and (f1.and d1)).mono fun N ⟨⟨e1, e2⟩, e3, e4⟩ => ?_
  have eR : R (rn p) (rdn p) = (I x, lim y) := by unfold R; rw [← hx, ← hy]
  unfold numtext_FormatRat.f ratT
  rw [e1, eR, ← hx, ← hy]
  simp only [Option.bind_some]
  rw [e2]
  simp only [Option.bind_some]
  rw [e3]
  simp only [Option.bind_some]
  have eT : ratT.intT' x = (if x < 0 then [45] else []) ++ dig x.natAbs := rfl
  rw [← eT]
  by_cases h1 : y = 1
  · rw [if_pos (decide_eq_true (by have := bl_one.2 h1; omega)), if_pos h1]
  · rw [if_neg (by rw [decide_eq_true_eq]; exact fun h => h1 (bl_one.1 (by omega))), if_neg h1, if_pos (by simp only [List.length_cons, List.length_nil]; omega), e4]
    simp only [Option.bind_some]
    rw [if_pos (by simp only [List.length_append, List.length_cons, List.length_nil]; omega)]
theorem rformatRat_ok : Ev fun N => rf4_FormatRat.f N p = some (ratT (rn p) (rdn p), ()) := by
  obtain ⟨x, hx⟩ : ∃ x, x = rn p / (Nat.gcd (rn p).natAbs (rdn p) : Int) := ⟨_, rfl⟩
  obtain ⟨y, hy⟩ : ∃ y, y = rdn p / Nat.gcd (rn p).natAbs (rdn p) := ⟨_, rfl⟩
  have sx : Sm x.natAbs := sp.mono (by have := div_abs_le (rn p) (Nat.gcd (rn p).natAbs (rdn p)); rw [← hx] at this; have := rn_abs p; omega)
  have sy : Sm y := sq.mono (by have := Nat.div_le_self (rdn p) (Nat.gcd (rn p).natAbs (rdn p)); rw [← hy] at this; have := rdn_le p; omega)
  have n1 := rnorm3_ok hp hq sp sq
  have b1 := requal_ok (a := lim y) (b := [1]) (by unfold Sm at sy; omega)
  have f1 := rformatInt_ok (p := I x) (I_L sx) (by rwa [I_V])
  rw [iv_I] at f1
  have d1 := rdigits_ok sy
  have hl1 := intT_len sx
  have hl2 := (dig_len sy).2
  refine ((n1.and b1).and (f1.and d1)).mono fun N ⟨⟨e1, e2⟩, e3, e4⟩ => ?_
  have eR : R (rn p) (rdn p) = (I x, lim y) := by unfold R; rw [← hx, ← hy]
  unfold rf4_FormatRat.f ratT
  rw [e1, eR, ← hx, ← hy]
  simp only [Option.bind_some]
  rw [e2]
  simp only [Option.bind_some]
  rw [e3]
  simp only [Option.bind_some]
  have eT : ratT.intT' x = (if x < 0 then [45] else []) ++ dig x.natAbs := rfl
  rw [← eT]
  by_cases h1 : y = 1
  · rw [if_pos (decide_eq_true (by rw [h1, lim_one])), if_pos h1]
  · rw [if_neg (by rw [decide_eq_true_eq]; exact fun h => h1 (lim_inj (h.trans lim_one.symm))), if_neg h1, if_pos (by simp only [List.length_cons, List.length_nil]; omega), e4]
    simp only [Option.bind_some]
    rw [if_pos (by simp only [List.length_append, List.length_cons, List.length_nil]; omega)]
end
theorem plainNumtextFormats (z : slotsX Unit (gridmarketlaw04_NumtextFormats.F 0).din.slots) (h : argsGoodR (some 1048576) (gridmarketlaw04_NumtextFormats.F 0).din.slots z) : ∃ N, (gridmarketlaw04_NumtextFormats.F N).run z = some (true, ()) := by
  obtain ⟨a0, a1, _⟩ := z
  obtain ⟨h0, h1, _⟩ := h
  obtain ⟨_, h0⟩ := h0
  obtain ⟨⟨_, h1⟩, h2⟩ := h1
  obtain ⟨l0, v0⟩ := arg_list h0
  obtain ⟨l1, v1⟩ := arg_list h1
  obtain ⟨l2, v2⟩ := arg_list h2
  have v0 : Sm (2 * (val a0.2 + 1)) := v0
  have s0 : Sm (val a0.2) := v0.mono (by omega)
  have f1 := formatInt_ok (p := a0) l0 s0
  have f2 := rformatInt_ok (p := a0) l0 s0
  have g1 := formatRat_ok (p := a1) l1 l2 v1 v2
  have g2 := rformatRat_ok (p := a1) l1 l2 v1 v2
  refine ((awake_ev.and (f1.and f2)).and (g1.and g2)).ex.imp fun N ⟨⟨e0, e1, e2⟩, e3, e4⟩ => ?_
  show gridmarketlaw04_NumtextFormats.f N a0 a1 = _
  unfold gridmarketlaw04_NumtextFormats.f
  rw [e0]
  simp only [Option.bind_some]
  rw [if_pos trivial, e1]
  simp only [Option.bind_some]
  rw [e2]
  simp only [Option.bind_some]
  rw [if_pos (by simp), e3]
  simp only [Option.bind_some]
  rw [e4]
  simp
end Go.Proofs.YtkadllkeekoopaaGreat.Abs.T
end

section
namespace Go.Proofs.YtkadllkeekoopaaGreat.Abs.T
open Go.Proofs.YtkadllkeekoopaaGreat.Abs.Ints Go.Proofs.YtkadllkeekoopaaGreat.Abs.BN
set_option maxRecDepth 10000

theorem ib_none {c : UInt8} : ∀ {s : List UInt8}, c ∉ s → Go.Lib.indexByte s c = -1
  | [], _ => rfl
  | b :: l, h => by
    have h1 : b ≠ c := fun e => h (by rw [e]; exact List.mem_cons_self ..)
    have ih := ib_none (s := l) fun e => h (List.mem_cons_of_mem _ e)
    unfold Go.Lib.indexByte
    rw [if_neg (by simpa using h1), ih]
    rfl
theorem ib_app {c : UInt8} (v : List UInt8) : ∀ {u : List UInt8}, c ∉ u → Go.Lib.indexByte (u ++ c :: v) c = (u.length : Int)
  | [], _ => by
    show (if (c == c) = true then (0 : Int) else _) = 0
    rw [if_pos (by simp)]
  | b :: l, h => by
    have h1 : b ≠ c := fun e => h (by rw [e]; exact List.mem_cons_self ..)
    have ih := ib_app (c := c) v (u := l) fun e => h (List.mem_cons_of_mem _ e)
    show (if (b == c) = true then (0 : Int) else if (Go.Lib.indexByte (l ++ c :: v) c == -1) = true then -1 else Go.Lib.indexByte (l ++ c :: v) c + 1) = _
    rw [if_neg (by simpa using h1), ih, if_neg (by simp)]
    rfl
theorem cut_none (N : Nat) {s : List UInt8} {c : UInt8} (h : c ∉ s) : strings_Cut.f N s [c] = some (s, [], false, ()) := by
  have : stringslite_Index.f N s [c] = some (Go.Lib.indexByte s c, ()) := rfl
  unfold strings_Cut.f stringslite_Cut.f
  rw [this, ib_none h]
  simp only [Option.bind_some]
  rw [if_neg (by decide)]
  rfl
theorem cut_some (N : Nat) {u v : List UInt8} {c : UInt8} (h : c ∉ u) (hl : (u ++ c :: v).length < 4611686018427387904) : strings_Cut.f N (u ++ c :: v) [c] = some (u, v, true, ()) := by
  have : stringslite_Index.f N (u ++ c :: v) [c] = some (Go.Lib.indexByte (u ++ c :: v) c, ()) := rfl
  unfold strings_Cut.f stringslite_Cut.f
  rw [this, ib_app v h]
  simp only [Option.bind_some]
  have hl' : (u ++ c :: v).length = u.length + (v.length + 1) := by rw [List.length_append, List.length_cons]
  rw [if_pos (decide_eq_true (by omega)), if_pos (by omega), wi (by simp only [List.length_cons, List.length_nil]; omega) (by simp only [List.length_cons, List.length_nil]; omega), if_pos (by simp only [List.length_cons, List.length_nil]; omega)]
  simp only [Option.bind_some]
  rw [i2n, show ((u.length : Int) + (([c] : List UInt8).length : Int)).toNat = u.length + 1 by simp only [List.length_cons, List.length_nil]; omega, List.take_left' rfl, ← List.drop_drop, List.drop_left' rfl]
  rfl
theorem qnew_ok {p q : Bool × List Int} (hp : L p.2) (hq : L q.2) (sp : Sm (val p.2)) (sq : Sm (val q.2)) (h0 : 0 < iv q) (h1 : q.1 = false) : Ev fun N => rational_New.f N p q = some (R (iv p) (val q.2), true, ()) := by
  have hb := iv_abs q
  refine ((sign_ok hq).and (qreduced_ok hp hq sp sq (by omega))).mono fun N ⟨e1, e2⟩ => ?_
  unfold rational_New.f rational_New.q5
  rw [e1, sgn_pos h0]
  simp only [Option.bind_some]
  rw [if_neg (by decide), h1, if_neg (by decide), e2]
  rfl
theorem gcd_red (n : Int) {d : Nat} (hd : 0 < d) : Nat.gcd (n / (Nat.gcd n.natAbs d : Int)).natAbs (d / Nat.gcd n.natAbs d) = 1 := by
  have hg := gcd_pos' (n := n.natAbs) hd
  have e := I_div (n := n) hg (Nat.gcd_dvd_left ..)
  have e2 : (n / (Nat.gcd n.natAbs d : Int)).natAbs = n.natAbs / Nat.gcd n.natAbs d := by
    have h2 : (I (n / (Nat.gcd n.natAbs d : Int))).2 = lim (n.natAbs / Nat.gcd n.natAbs d) := by rw [e]
    rw [I_2] at h2
    exact lim_inj h2
  rw [e2]
  exact Nat.gcd_div_gcd_div_gcd_of_pos_right hd
theorem R_idem (n : Int) {d : Nat} (hd : 0 < d) : R (n / (Nat.gcd n.natAbs d : Int)) (d / Nat.gcd n.natAbs d) = R n d := by
  unfold R
  rw [gcd_red n hd]
  simp
theorem notin_dig {c : UInt8} (h : c.toNat < 48 ∨ 57 < c.toNat) (n : Nat) : c ∉ dig n := fun hc => by
  have := dig_in' c hc
  omega
theorem notin_int {c : UInt8} (h : c.toNat = 46 ∨ c.toNat = 47) (z : Int) : c ∉ intT z := fun hc => by
  unfold intT at hc
  rcases List.mem_append.1 hc with hc | hc
  · split at hc
    · rw [List.mem_singleton.1 hc] at h
      revert h; decide
    · cases hc
  · exact notin_dig (by omega) _ hc
theorem intT_len' {z : Int} (h : Sm z.natAbs) : (intT z).length ≤ 17592186044417 := intT_len h
theorem whole_int {z : Int} (h : Sm z.natAbs) : Ev fun N => numtext_whole.f N (intT z) = some (I z, ()) := by
  have := whole_ok (s := intT z) (by rw [sgT_int]; exact adB_dig _) (by rw [sgT_int, num_dig]; exact h)
  rw [sgT_int] at this
  dsimp only at this
  rwa [num_dig, sgz_int] at this
theorem whole_dig {n : Nat} (h : Sm n) : Ev fun N => numtext_whole.f N (dig n) = some (I (n : Int), ()) := by
  have := whole_int (z := (n : Int)) (by simpa using h)
  have e : intT (n : Int) = dig n := by unfold intT; rw [if_neg (by omega)]; simp
  rwa [e] at this
theorem plB_dig (n : Nat) : plB (dig n) = true := by
  obtain ⟨c, r, e, h1, h2, h3, h4⟩ := dig_first n
  unfold plB
  rw [adB_dig, e, Bool.true_and]
  by_cases h0 : n = 0
  · have := h3 h0
    injection this with _ hr
    subst hr
    simp
  · simp [h4 h0]
theorem AS_dig (n : Nat) : AS (dig n) := fun c hc => by have := dig_in' c hc; omega
def bad : (Bool × List Int) × List Int := ((false, []), [])
theorem parseA {x : Int} (hx : Sm x.natAbs) : Ev fun N => numtext_ParseRat.f N (intT x) = if 4096 < cnt (intT x) then some (bad, 8, ()) else some (R x 1, 0, ()) := by
  have hl := intT_len' hx
  have nE := isNumber_ok (AS_int x)
  rw [nuB_int] at nE
  have cE := count_ok (s := intT x) (by omega)
  have one := fromInt_ok (v := 1) (by omega) (by omega)
  have w := qnew_ok (p := I x) (q := I 1) (I_L hx) (I_L Sm.one) (by rwa [I_V]) (by rw [I_V]; exact Sm.one) (by rw [iv_I]; omega) rfl
  rw [iv_I, I_V] at w
  refine ((nE.and cE).and ((whole_int hx).and (one.and w))).mono fun N ⟨⟨e1, e2⟩, e3, e4, e5⟩ => ?_
  unfold numtext_ParseRat.f
  rw [cut_none N (notin_int (c := 47) (by decide) x), sgT_ok, sgT_int]
  simp only [Option.bind_some]
  rw [cut_none N (notin_dig (c := 46) (by decide) _)]
  simp only [Option.bind_some, Bool.false_eq_true, if_false]
  unfold numtext_ParseRat.q5 numtext_ParseRat.q10999999
  simp only [Bool.false_eq_true, if_false, Bool.not_false, if_true]
  rw [e1]
  simp only [Option.bind_some, Bool.not_true]
  unfold numtext_ParseRat.q10000007
  simp only [Bool.false_eq_true, if_false]
  rw [e2]
  simp only [Option.bind_some]
  by_cases hc : 4096 < cnt (intT x)
  · rw [if_pos (decide_eq_true (by omega)), if_pos hc]; rfl
  · rw [if_neg (by rw [decide_eq_true_eq]; omega), if_neg hc]
    unfold numtext_ParseRat.q18
    rw [e3]
    simp only [Option.bind_some]
    rw [e4]
    simp only [Option.bind_some]
    rw [e5]
    rfl
theorem parseB {x : Int} {y : Nat} (hx : Sm x.natAbs) (hy : Sm y) (h0 : 0 < y) : Ev fun N => numtext_ParseRat.f N (intT x ++ 47 :: dig y) = if 4096 < cnt (intT x ++ 47 :: dig y) then some (bad, 8, ()) else some (R x y, 0, ()) := by
  have hl := intT_len' hx
  have hl2 := (dig_len hy).2
  have hl3 : (intT x ++ 47 :: dig y).length < 4611686018427387904 := by rw [List.length_append, List.length_cons]; omega
  have nE := isNumber_ok (AS_int x)
  rw [nuB_int] at nE
  have pE := plain_ok (AS_dig y)
  rw [plB_dig] at pE
  have cE := count_ok hl3
  have w := qnew_ok (p := I x) (q := I (y : Int)) (I_L hx) (I_L (by simpa using hy)) (by rwa [I_V]) (by rw [I_V]; simpa using hy) (by rw [iv_I]; omega) (by rw [I_1]; exact decide_eq_false (by omega))
  rw [iv_I, I_V, Int.natAbs_natCast] at w
  have hsg : sgT (intT x ++ 47 :: dig y) = (decide (x < 0), dig x.natAbs ++ 47 :: dig y) := by
    have h1 := sgT_int x
    unfold intT at h1 ⊢
    by_cases h : x < 0
    · rw [if_pos h, decide_eq_true h]; rfl
    · rw [if_neg h, decide_eq_false h, List.nil_append]
      obtain ⟨c, r, e, k1, k2, _⟩ := dig_first x.natAbs
      rw [e]
      show (if c.toNat = 45 then _ else _) = _
      rw [if_neg (by omega)]; rfl
  have hno : (46 : UInt8) ∉ dig x.natAbs ++ 47 :: dig y := fun h => by
    rcases List.mem_append.1 h with h | h
    · exact notin_dig (c := 46) (by decide) _ h
    · rcases List.mem_cons.1 h with h | h
      · revert h; decide
      · exact notin_dig (c := 46) (by decide) _ h
  refine (((nE.and pE).and cE).and ((whole_int hx).and ((whole_dig hy).and w))).mono fun N ⟨⟨⟨e1, e6⟩, e2⟩, e3, e4, e5⟩ => ?_
  unfold numtext_ParseRat.f
  rw [cut_some N (notin_int (c := 47) (by decide) x) hl3, sgT_ok, hsg]
  simp only [Option.bind_some]
  rw [cut_none N hno]
  simp only [Option.bind_some, Bool.false_eq_true, if_false]
  unfold numtext_ParseRat.q5 numtext_ParseRat.q10999999
  simp only [if_true]
  rw [e1]
  simp only [Option.bind_some, if_true]
  rw [e6]
  simp only [Option.bind_some, Bool.not_true, Bool.false_eq_true, if_false]
  unfold numtext_ParseRat.q10000007
  simp only [Bool.false_eq_true, if_false, if_true]
  rw [e2]
  simp only [Option.bind_some]
  by_cases hc : 4096 < cnt (intT x ++ 47 :: dig y)
  · rw [if_pos (decide_eq_true (by omega)), if_pos hc]; rfl
  · rw [if_neg (by rw [decide_eq_true_eq]; omega), if_neg hc, e3]
    simp only [Option.bind_some]
    rw [e4]
    simp only [Option.bind_some]
    rw [e5]
    rfl
/-- The text of a fraction, read. -/
theorem parse_rat {n : Int} {d : Nat} (hd : 0 < d) (hn : Sm (n.natAbs + 1)) (hs : Sm d) : Ev fun N => numtext_ParseRat.f N (ratT n d) = if 4096 < cnt (ratT n d) then some (bad, 8, ()) else some (R n d, 0, ()) := by
  obtain ⟨x, hx⟩ : ∃ x, x = n / (Nat.gcd n.natAbs d : Int) := ⟨_, rfl⟩
  obtain ⟨y, hy⟩ : ∃ y, y = d / Nat.gcd n.natAbs d := ⟨_, rfl⟩
  have sx : Sm x.natAbs := hn.mono (by have := div_abs_le n (Nat.gcd n.natAbs d); rw [← hx] at this; exact this)
  have sy : Sm y := hs.mono (by rw [hy]; exact Nat.div_le_self ..)
  have hy0 : 0 < y := by rw [hy]; exact Nat.div_pos (Nat.gcd_le_right _ hd) (gcd_pos' hd)
  have hR : R x y = R n d := by rw [hx, hy]; exact R_idem n hd
  have eT : ∀ z, ratT.intT' z = intT z := fun _ => rfl
  rw [← hR]
  unfold ratT
  rw [← hx, ← hy, eT]
  by_cases h1 : y = 1
  · rw [if_pos h1, h1]
    exact parseA sx
  · rw [if_neg h1, List.append_assoc]
    exact parseB sx sy hy0
end Go.Proofs.YtkadllkeekoopaaGreat.Abs.T
end

section
namespace Go.Proofs.YtkadllkeekoopaaGreat.Abs.T
open Go.Proofs.YtkadllkeekoopaaGreat.Abs.Ints Go.Proofs.YtkadllkeekoopaaGreat.Abs.BN
set_option maxRecDepth 10000

theorem parse_int_gen {z : Int} (hz : Sm z.natAbs) : Ev fun N => numtext_ParseInt.f N (intT z) = if 4096 < cnt (intT z) then some ((false, []), 8, ()) else some (I z, 0, ()) := by
  have hl := intT_len' hz
  have nE := isNumber_ok (AS_int z)
  rw [nuB_int] at nE
  refine ((nE.and (count_ok (s := intT z) (by omega))).and (whole_int hz)).mono fun N ⟨⟨e1, e2⟩, e3⟩ => ?_
  unfold numtext_ParseInt.f
  rw [e1]
  simp only [Option.bind_some, Bool.not_true, Bool.false_eq_true, if_false]
  rw [e2]
  simp only [Option.bind_some]
  by_cases hc : 4096 < cnt (intT z)
  · rw [if_pos (decide_eq_true (by omega)), if_pos hc]
  · rw [if_neg (by rw [decide_eq_true_eq]; omega), if_neg hc, e3]
    rfl
theorem req2_refl {p : Bool × List Int} (h : p.2.length < 4611686018427387904) : Ev fun N => rf2_Equal.f N p p = some (true, ()) := by
  refine (requal_ok (a := p.2) (b := p.2) h).mono fun N e => ?_
  unfold rf2_Equal.f
  rw [if_pos (by simp), e, decide_eq_true rfl]
  rfl
theorem req3_refl {p : (Bool × List Int) × List Int} (h : p.1.2.length < 4611686018427387904) (h2 : p.2.length < 4611686018427387904) : Ev fun N => rf3_Equal.f N p p = some (true, ()) := by
  refine ((req2_refl h).and (requal_ok (a := p.2) (b := p.2) h2)).mono fun N ⟨e1, e2⟩ => ?_
  unfold rf3_Equal.f
  rw [e1]
  simp only [Option.bind_some, if_true]
  rw [e2, decide_eq_true rfl]
  rfl
theorem cnt_le (s : List UInt8) : cnt s ≤ s.length := List.countP_le_length
theorem R_lens {n : Int} {d : Nat} (hn : Sm (n.natAbs + 1)) (hd : Sm d) : (R n d).1.2.length < 4611686018427387904 ∧ (R n d).2.length < 4611686018427387904 := by
  have h1 : Sm (n / (Nat.gcd n.natAbs d : Int)).natAbs := hn.mono (div_abs_le n _)
  have h2 : Sm (d / Nat.gcd n.natAbs d) := hd.mono (Nat.div_le_self ..)
  unfold Sm at h1 h2
  unfold R
  rw [I_2]
  constructor
  · show (lim _).length < _; omega
  · show (lim _).length < _; omega
theorem plainNumtextRoundTrip (z : slotsX Unit (gridmarketlaw04_NumtextRoundTrip.F 0).din.slots) (h : argsGoodR (some 1048576) (gridmarketlaw04_NumtextRoundTrip.F 0).din.slots z) : ∃ N, (gridmarketlaw04_NumtextRoundTrip.F N).run z = some (true, ()) := by
  obtain ⟨a0, a1, _⟩ := z
  obtain ⟨h0, h1, _⟩ := h
  obtain ⟨_, h0⟩ := h0
  obtain ⟨⟨_, h1⟩, h2⟩ := h1
  obtain ⟨l0, v0⟩ := arg_list h0
  obtain ⟨l1, v1⟩ := arg_list h1
  obtain ⟨l2, v2⟩ := arg_list h2
  have l0 : L a0.2 := l0
  have l1 : L a1.1.2 := l1
  have l2 : L a1.2 := l2
  have v0 : Sm (2 * (val a0.2 + 1)) := v0
  have v1 : Sm (2 * (val a1.1.2 + 1)) := v1
  have v2 : Sm (2 * (val a1.2 + 1)) := v2
  have s0 : Sm (val a0.2) := v0.mono (by omega)
  have s1 : Sm (iv a0).natAbs := by rwa [iv_abs]
  have rn1 : Sm ((rn a1).natAbs + 1) := v1.mono (by have := rn_abs a1; omega)
  have rd1 : Sm (rdn a1) := v2.mono (by have := rdn_le a1; omega)
  have f1 := formatInt_ok (p := a0) l0 s0
  have g1 := formatRat_ok (p := a1) l1 l2 v1 v2
  have pI := parse_int_gen s1
  have pR := parse_rat (rdn_pos a1) rn1 rd1
  have n2 := rnorm_ok l0 s0
  have n3 := rnorm3_ok l1 l2 v1 v2
  have q2 := req2_refl (p := I (iv a0)) (by rw [I_2]; unfold Sm at s1; omega)
  have q3 := req3_refl (R_lens rn1 rd1).1 (R_lens rn1 rd1).2
  refine (((awake_ev.and f1).and (g1.and pI)).and ((pR.and n2).and (n3.and (q2.and q3)))).ex.imp fun N ⟨⟨⟨e0, e1⟩, e2, e3⟩, ⟨e4, e5⟩, e6, e7, e8⟩ => ?_
  have e1 : numtext_FormatInt.f N a0 = some (intT (iv a0), ()) := e1
  show gridmarketlaw04_NumtextRoundTrip.f N a0 a1 = _
  unfold gridmarketlaw04_NumtextRoundTrip.f
  rw [e1]
  simp only [Option.bind_some]
  rw [e2]
  simp only [Option.bind_some]
  have hc1 := cnt_le (intT (iv a0))
  have hc2 := cnt_le (ratT (rn a1) (rdn a1))
  obtain ⟨r1, hr1, hr1'⟩ : ∃ r1, numtext_ParseInt.f N (intT (iv a0)) = some r1 ∧ (¬ 4096 < (intT (iv a0)).length → r1 = (I (iv a0), 0, ())) := by
    rw [e3]
    by_cases hc : 4096 < cnt (intT (iv a0))
    · exact ⟨_, if_pos hc, fun h => absurd hc (by omega)⟩
    · exact ⟨_, if_neg hc, fun _ => rfl⟩
  obtain ⟨r2, hr2, hr2'⟩ : ∃ r2, numtext_ParseRat.f N (ratT (rn a1) (rdn a1)) = some r2 ∧ (¬ 4096 < (ratT (rn a1) (rdn a1)).length → r2 = (R (rn a1) (rdn a1), 0, ())) := by
    rw [e4]
    by_cases hc : 4096 < cnt (ratT (rn a1) (rdn a1))
    · exact ⟨_, if_pos hc, fun h => absurd hc (by omega)⟩
    · exact ⟨_, if_neg hc, fun _ => rfl⟩
  rw [hr1, hr2]
  simp only [Option.bind_some]
  rw [e0]
  simp only [Option.bind_some, if_true]
  have fin : (if decide (4096 < ((ratT (rn a1) (rdn a1)).length : Int)) = true then some (true, ()) else if decide (r2.2.1 = 0) = true then (rf3_Norm.f N a1).bind fun t6 => (rf3_Equal.f N r2.1 t6.1).bind fun t7 => some (t7.1, ()) else some (false, ())) = some (true, ()) := by
    by_cases h : 4096 < (ratT (rn a1) (rdn a1)).length
    · rw [if_pos (decide_eq_true (by omega))]
    · rw [if_neg (by rw [decide_eq_true_eq]; omega), hr2' h, if_pos (by rfl), e6]
      simp only [Option.bind_some]
      rw [e8]
      rfl
  by_cases h : 4096 < (intT (iv a0)).length
  · rw [if_pos (decide_eq_true (by omega))]
    exact fin
  · rw [if_neg (by rw [decide_eq_true_eq]; omega), hr1' h, if_pos (by rfl), e5]
    simp only [Option.bind_some]
    rw [e7]
    simp only [Option.bind_some, if_true]
    exact fin
end Go.Proofs.YtkadllkeekoopaaGreat.Abs.T
end
