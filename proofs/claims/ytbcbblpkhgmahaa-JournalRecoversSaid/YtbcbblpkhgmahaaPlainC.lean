import Derived.Test.YtbcbblpkhgmahaaPlainB
set_option linter.unusedVariables false
set_option linter.unusedSimpArgs false
section
namespace Go.Proofs.Ytbcbblpkhgmahaa.Abs.T
open Go.Proofs.Ytbcbblpkhgmahaa.Abs.Crc Go.Proofs.Ytbcbblpkhgmahaa.Abs.Ints

/-- The first byte of the burst that is not zero. -/
theorem bursts_l7 (K : List (List Int) → Int → Int → List Int → List Int → Option (Bool × Unit)) (l : List (List Int)) (p : Int) (by' d : List Int) (h4 : by'.length = 4) (hz : by' ≠ List.replicate 4 0) : ∀ (m i : Nat), i ≤ 4 → (∀ j, j < i → by'.getD j 0 = 0) →
    ∃ f : Nat, f < 4 ∧ by'.getD f 0 ≠ 0 ∧ gridmarketlaw44_JournalBursts.l7 50000 K (m + (4 - i) + 1) l p (i : Int) by' d = K l p (f : Int) by' d
  | m, i, hi, hj => by
    have e : gridmarketlaw44_JournalBursts.l7 50000 K (m + (4 - i) + 1) l p (i : Int) by' d = gridmarketlaw44_JournalBursts.p7 50000 K (gridmarketlaw44_JournalBursts.l7 50000 K (m + (4 - i))) l p (i : Int) by' d := rfl
    rw [e]
    unfold gridmarketlaw44_JournalBursts.p7
    by_cases h : i = 4
    · subst h
      exfalso
      apply hz
      refine List.ext_getElem (by simp [h4]) fun j h1 h2 => ?_
      have := hj j (by omega)
      rw [List.getD_eq_getElem?_getD, List.getElem?_eq_getElem h1, Option.getD_some] at this
      rw [List.getElem_replicate]
      exact this
    · rw [if_pos (by omega), Int.toNat_natCast]
      by_cases hg : by'.getD i 0 = 0
      · rw [if_pos (decide_eq_true hg), wrap_i64 (by omega) (by omega), show (i : Int) + 1 = ((i + 1 : Nat) : Int) from rfl, show m + (4 - i) = m + (4 - (i + 1)) + 1 by omega]
        refine bursts_l7 K l p by' d h4 hz m (i + 1) (by omega) fun j hj' => ?_
        by_cases hji : j = i
        · rw [hji]; exact hg
        · exact hj j (by omega)
      · rw [if_neg (by rw [decide_eq_true_eq]; exact hg)]
        exact ⟨i, by omega, hg, rfl⟩
  termination_by m i => 4 - i

/-- How far the burst has come: d' differs from d behind p at most, in four bytes; from the first step on, at p. -/
structure Hit (d d' : List Int) (p : Nat) (done : Prop) : Prop where
  len : d'.length = d.length
  bytes : Bytes d'
  out : ∀ j, j < p ∨ p + 4 ≤ j → d'[j]? = d[j]?
  at' : done → d'[p]? ≠ d[p]?

theorem bursts_l11 (K : List (List Int) → Int → List Int → Option (Bool × Unit)) (l : List (List Int)) (by' d : List Int) (hby : Bytes by') (h4 : by'.length = 4) {p f : Nat} (hp : p < d.length) (hd : d.length ≤ 40000) (hf : f < 4) (hnz : by'.getD f 0 ≠ 0) :
    ∀ (m i : Nat) (d' : List Int), f ≤ i → i ≤ 4 → Hit d d' p (f < i) → (i = f → d' = d) →
    ∃ d2, Hit d d2 p True ∧ gridmarketlaw44_JournalBursts.l11 50000 K (m + (4 - i) + 1) l (p : Int) (f : Int) (i : Int) by' d' = K l (p : Int) d2
  | m, i, d', hfi, hi4, H, h0 => by
    have e : gridmarketlaw44_JournalBursts.l11 50000 K (m + (4 - i) + 1) l (p : Int) (f : Int) (i : Int) by' d' = gridmarketlaw44_JournalBursts.p11 50000 K (gridmarketlaw44_JournalBursts.l11 50000 K (m + (4 - i))) l (p : Int) (f : Int) (i : Int) by' d' := rfl
    rw [e]
    unfold gridmarketlaw44_JournalBursts.p11
    by_cases h : i = 4
    · subst h
      rw [if_neg (by simp)]
      exact ⟨d', ⟨H.len, H.bytes, H.out, fun _ => H.at' (by omega)⟩, rfl⟩
    · have hlen := H.len
      have w : IntKind.wrap .i64 (IntKind.wrap .i64 ((p : Int) + (i : Int)) - (f : Int)) = ((p + (i - f) : Nat) : Int) := by
        rw [wrap_i64 (n := (p : Int) + (i : Int)) (by omega) (by omega), wrap_i64 (by omega) (by omega)]
        omega
      rw [if_pos (decide_eq_true (by omega)), w]
      by_cases hq : p + (i - f) < d'.length
      · rw [if_pos (decide_eq_true (by omega)), if_pos (by omega), if_pos (by omega), if_pos (by omega), Int.toNat_natCast, Int.toNat_natCast]
        obtain ⟨v, hv, hv2, _⟩ := H.bytes.at hq
        obtain ⟨u, hu, hu2, _⟩ := hby.at (i := i) (by omega)
        rw [hv, hu, xor_u8 _ _ hv2 hu2, wrap_i64 (by omega) (by omega), show (i : Int) + 1 = ((i + 1 : Nat) : Int) from rfl, show m + (4 - i) = m + (4 - (i + 1)) + 1 by omega]
        have hx : v ^^^ u < 2 ^ 8 := Nat.xor_lt_two_pow (by omega) (by omega)
        refine bursts_l11 K l by' d hby h4 hp hd hf hnz m (i + 1) _ (by omega) (by omega) ⟨by rw [List.length_set]; exact H.len, ?_, ?_, ?_⟩ (fun h => by omega)
        · intro x hx'
          rcases List.mem_or_eq_of_mem_set hx' with h | h
          · exact H.bytes x h
          · rw [h]; omega
        · intro j hj
          rw [List.getElem?_set_ne (by omega)]
          exact H.out j hj
        · intro _
          by_cases hif : i = f
          · subst hif
            have hdd := h0 rfl
            subst hdd
            rw [Nat.sub_self, Nat.add_zero] at hv ⊢
            rw [List.getElem?_set_self hp, List.getElem?_eq_getElem hp]
            rw [List.getD_eq_getElem?_getD, List.getElem?_eq_getElem hp, Option.getD_some] at hv
            rw [hv]
            intro e
            have e : ((v ^^^ u : Nat) : Int) = (v : Int) := Option.some.inj e
            have e : v ^^^ u = v := by omega
            have : u = 0 := by
              have h1 : v ^^^ (v ^^^ u) = v ^^^ v := by rw [e]
              rwa [← Nat.xor_assoc, Nat.xor_self, Nat.zero_xor] at h1
            exact hnz (by rw [hu, this]; rfl)
          · rw [List.getElem?_set_ne (by omega)]
            exact H.at' (by omega)
      · rw [if_neg (by rw [decide_eq_true_eq]; omega)]
        exact ⟨d', ⟨H.len, H.bytes, H.out, fun _ => H.at' (by omega)⟩, rfl⟩
  termination_by m i => 4 - i

/-- The record in which the burst begins. -/
theorem bursts_l15 (K : List (List Int) → Int → Int → List Int → Option (Bool × Unit)) (l : List (List Int)) (hl : l.length ≤ 12) (hs : ∀ c ∈ l, c.length ≤ 200) (d' : List Int) {p : Nat} (hp : p < (dsk 0 l).length) : ∀ (m i : Nat), i ≤ l.length → (dsk 0 (l.take i)).length ≤ p →
    ∃ (n : Nat) (hn : n < l.length), (dsk 0 (l.take n)).length ≤ p ∧ p < (dsk 0 (l.take n)).length + (16 + l[n].length) ∧
      gridmarketlaw44_JournalBursts.l15 50000 K (m + (l.length - i) + 1) l (p : Int) (i : Int) ((dsk 0 (l.take i)).length : Int) d' = K l (n : Int) ((dsk 0 (l.take n)).length : Int) d'
  | m, i, hi, hle => by
    have e : gridmarketlaw44_JournalBursts.l15 50000 K (m + (l.length - i) + 1) l (p : Int) (i : Int) ((dsk 0 (l.take i)).length : Int) d' = gridmarketlaw44_JournalBursts.p15 50000 K (gridmarketlaw44_JournalBursts.l15 50000 K (m + (l.length - i))) l (p : Int) (i : Int) ((dsk 0 (l.take i)).length : Int) d' := rfl
    rw [e]
    unfold gridmarketlaw44_JournalBursts.p15
    by_cases h : i = l.length
    · subst h
      rw [List.take_length] at hle
      omega
    · have hi' : i < l.length := by omega
      have hdl := dsk_bound (l := l.take i) (k := 200) (fun c hc => hs c (List.mem_of_mem_take hc)) 0
      have hdl' : (dsk 0 (l.take i)).length ≤ 12 * 216 := Nat.le_trans hdl (Nat.mul_le_mul_right _ (by rw [List.length_take]; omega))
      have hsi := hs _ (List.getElem_mem hi')
      have hg : l.getD i [] = l[i] := by rw [List.getD_eq_getElem?_getD, List.getElem?_eq_getElem hi']; rfl
      rw [if_pos (decide_eq_true (by omega)), if_pos (by omega), Int.toNat_natCast, hg]
      have w : IntKind.wrap .i64 (IntKind.wrap .i64 (((dsk 0 (l.take i)).length : Int) + 16) + (l[i].length : Int)) = (((dsk 0 (l.take i)).length + (16 + l[i].length) : Nat) : Int) := by
        rw [wrap_i64 (n := ((dsk 0 (l.take i)).length : Int) + 16) (by omega) (by omega), wrap_i64 (by omega) (by omega)]
        omega
      rw [w]
      have hnext : (dsk 0 (l.take (i + 1))).length = (dsk 0 (l.take i)).length + (16 + l[i].length) := by
        rw [List.take_succ_eq_append_getElem hi', dsk_snoc, List.length_append, record_len]
      by_cases hc : (dsk 0 (l.take i)).length + (16 + l[i].length) ≤ p
      · rw [if_pos (decide_eq_true (by omega)), if_pos (by omega), wrap_i64 (by omega) (by omega), show (i : Int) + 1 = ((i + 1 : Nat) : Int) from rfl, show m + (l.length - i) = m + (l.length - (i + 1)) + 1 by omega, ← hnext]
        exact bursts_l15 K l hl hs d' hp m (i + 1) (by omega) (by omega)
      · rw [if_neg (by rw [decide_eq_true_eq]; omega)]
        exact ⟨i, hi', hle, by omega, rfl⟩
  termination_by m i => l.length - i

theorem law_bursts (l : List (List Int)) (p0 : Int) (by' : List Int) (hb : ∀ c ∈ l, Bytes c) (hby : Bytes by') (h4 : by'.length = 4) : gridmarketlaw44_JournalBursts.f 50000 l p0 by' = some (true, ()) := by
  unfold gridmarketlaw44_JournalBursts.f gridmarketlaw44_JournalBursts.q10000002
  rcases light_ok l with ⟨h, hl, hs⟩ | h
  case inr => rw [h]; rfl
  rw [h]
  simp only [Option.bind_some, Bool.not_true, Bool.false_eq_true, if_false]
  by_cases hz : by' = List.replicate 4 0
  · rw [if_pos (decide_eq_true hz)]
  rw [if_neg (by rw [decide_eq_true_eq]; exact hz)]
  unfold gridmarketlaw44_JournalBursts.q3
  have hdl := dsk_bound hs 0
  have hdl' : (dsk 0 l).length ≤ 12 * 216 := Nat.le_trans hdl (Nat.mul_le_mul_right _ hl)
  have hdb := dsk_bytes l 0 hb
  rw [disk_ok hb (fun c hc => by have := hs c hc; omega) hl]
  simp only [Option.bind_some]
  by_cases h0 : (dsk 0 l).length = 0
  · rw [if_pos (by rw [decide_eq_true_eq]; omega)]
  rw [if_neg (by rw [decide_eq_true_eq]; omega)]
  obtain ⟨f, hf, hnz, e7⟩ := bursts_l7 (fun y0 y1 y8 yo5 yr7 => (gridmarketmake_Mod.f 50000 y1 (yr7.length : Int)).bind fun t6 => (gridmarketlaw44_JournalBursts.l11 50000 (fun y0_7 y1_7 yr7_7 => gridmarketlaw44_JournalBursts.l15 50000 (fun y0_9 y10_9 y11_9 yr7_9 => (journal_Recover.f 50000 yr7_9).bind fun t11 => ((gridmarketlaw44_awake.f 50000).bind fun t12 => (if t12.1 then (if decide (t11.1 = y11_9) then (if (0 : Int) ≤ y10_9 ∧ y10_9 ≤ (y0_9.length : Int) then ((gridmarketref44_Same.f 50000 t11.2.1 (y0_9.take ((y10_9 : Int).toNat))).bind fun t13 => (some (t13.1, ()))) else none) else (some (false, ()))) else (some (false, ()))))) 50000 y0_7 y1_7 0 0 yr7_7) 50000 y0 t6.1 y8 y8 yo5 yr7)) l p0 by' (dsk 0 l) h4 hz 49995 0 (by omega) (fun j hj => by omega)
  refine e7.trans ?_
  obtain ⟨p, hm, hp0, hp1⟩ := mod_ok (N := 50000) p0 (a1 := ((dsk 0 l).length : Int)) (by omega) (by omega)
  obtain ⟨p, rfl⟩ := Int.eq_ofNat_of_zero_le hp0
  rw [hm]
  simp only [Option.bind_some]
  obtain ⟨d2, H, e11⟩ := bursts_l11 (fun y0_7 y1_7 yr7_7 => gridmarketlaw44_JournalBursts.l15 50000 (fun y0_9 y10_9 y11_9 yr7_9 => (journal_Recover.f 50000 yr7_9).bind fun t11 => ((gridmarketlaw44_awake.f 50000).bind fun t12 => (if t12.1 then (if decide (t11.1 = y11_9) then (if (0 : Int) ≤ y10_9 ∧ y10_9 ≤ (y0_9.length : Int) then ((gridmarketref44_Same.f 50000 t11.2.1 (y0_9.take ((y10_9 : Int).toNat))).bind fun t13 => (some (t13.1, ()))) else none) else (some (false, ()))) else (some (false, ()))))) 50000 y0_7 y1_7 0 0 yr7_7)
    l by' (dsk 0 l) hby h4 (p := p) (f := f) (by omega) (by omega) hf hnz (49999 - (4 - f)) f (dsk 0 l) (Nat.le_refl _) (by omega) ⟨rfl, hdb, fun _ _ => rfl, fun h => absurd h (by omega)⟩ (fun _ => rfl)
  rw [show 49999 - (4 - f) + (4 - f) + 1 = 50000 by omega] at e11
  refine e11.trans ?_
  obtain ⟨n, hn, hn1, hn2, e15⟩ := bursts_l15 (fun y0_9 y10_9 y11_9 yr7_9 => (journal_Recover.f 50000 yr7_9).bind fun t11 => ((gridmarketlaw44_awake.f 50000).bind fun t12 => (if t12.1 then (if decide (t11.1 = y11_9) then (if (0 : Int) ≤ y10_9 ∧ y10_9 ≤ (y0_9.length : Int) then ((gridmarketref44_Same.f 50000 t11.2.1 (y0_9.take ((y10_9 : Int).toNat))).bind fun t13 => (some (t13.1, ()))) else none) else (some (false, ()))) else (some (false, ())))))
    l hl hs d2 (p := p) (by omega) (49999 - l.length) 0 (by omega) (by simp [dsk])
  rw [show 49999 - l.length + (l.length - 0) + 1 = 50000 by omega] at e15
  refine e15.trans ?_
  -- what is found
  have hsplit : dsk 0 l = dsk 0 (l.take n) ++ (record (n : Int) l[n] ++ dsk (n + 1) (l.drop (n + 1))) := by
    have h1 : l = l.take n ++ (l[n] :: l.drop (n + 1)) := by rw [← List.drop_eq_getElem_cons hn, List.take_append_drop]
    have h2 := dsk_append (l.take n) (l[n] :: l.drop (n + 1)) 0
    rw [← h1] at h2
    rw [h2, List.length_take, Nat.min_eq_left (by omega), Nat.zero_add]
    rfl
  have hdrop : (dsk 0 l).drop (dsk 0 (l.take n)).length = record (n : Int) l[n] ++ dsk (n + 1) (l.drop (n + 1)) := by
    conv => lhs; rw [hsplit]
    rw [List.drop_left]
  have htake : d2.take (dsk 0 (l.take n)).length = dsk 0 (l.take n) := by
    have h1 : (dsk 0 l).take (dsk 0 (l.take n)).length = dsk 0 (l.take n) := by
      conv => lhs; rw [hsplit]
      rw [List.take_left]
    refine Eq.trans ?_ h1
    refine List.ext_getElem? fun j => ?_
    rw [List.getElem?_take, List.getElem?_take]
    split
    · exact H.out j (.inl (by omega))
    · rfl
  have hd2 : d2 = dsk 0 (l.take n) ++ d2.drop (dsk 0 (l.take n)).length := by
    conv => lhs; rw [← List.take_append_drop (dsk 0 (l.take n)).length d2]
    rw [htake]
  have hlen := H.len
  have hmem := List.getElem_mem hn
  have hsn := hs _ hmem
  have hno : ∀ c, ¬ Begins (d2.drop (dsk 0 (l.take n)).length) (n : Int) c := by
    refine burst_begins (c0 := l[n]) (rest0 := dsk (n + 1) (l.drop (n + 1))) (hb _ hmem) (by omega) (H.bytes.mono fun x hx => List.mem_of_mem_drop hx) ?_ (r := p - (dsk 0 (l.take n)).length) (by omega) (fun j hj => ?_) ?_
    · rw [← hdrop, List.length_drop, List.length_drop, hlen]
    · rw [← hdrop, List.getElem?_drop, List.getElem?_drop]
      exact H.out _ (by omega)
    · rw [← hdrop, List.getElem?_drop, List.getElem?_drop, show (dsk 0 (l.take n)).length + (p - (dsk 0 (l.take n)).length) = p by omega]
      exact H.at' trivial
  have hln : (l.take n).length = n := by rw [List.length_take]; omega
  have hr := recover_spec (l := l.take n) hd2 H.bytes (by omega) (by omega) (.inr (by rw [hln]; exact hno))
  rw [hr, awake_N]
  simp only [Option.bind_some, if_true]
  rw [if_pos (by simp), if_pos (by omega), Int.toNat_natCast, same_ok (by omega)]
  rfl
theorem plainJournalBursts (z : slotsX Unit (gridmarketlaw44_JournalBursts.F 0).din.slots) (h : argsGood (gridmarketlaw44_JournalBursts.F 0).din.slots z) : ∃ N, (gridmarketlaw44_JournalBursts.F N).run z = some (true, ()) :=
  ⟨50000, law_bursts z.1 z.2.1 z.2.2.1 (bytess_of h.1.2.2) (bytes_of h.2.2.1.2) h.2.2.1.1⟩
end Go.Proofs.Ytbcbblpkhgmahaa.Abs.T
end

section
namespace Go.Proofs.Ytbcbblpkhgmahaa.Abs.T
open Go.Proofs.Ytbcbblpkhgmahaa.Abs.Crc Go.Proofs.Ytbcbblpkhgmahaa.Abs.Ints

theorem get_is (N : Nat) (b : List Int) : gridmarketref44_number.f N b = journal_get.f N b := rfl

theorem ref_q7 {b : List Int} (hb : Bytes b) (hl : b.length ≤ 40000) (n : Int) (h16 : 16 ≤ b.length) {v0 v4 v8 : Int} {r12 : List Int} (eb : b = four v0 ++ (four v4 ++ (four v8 ++ r12))) (g0 : 0 ≤ v0 ∧ v0 < 4294967296) (g4 : 0 ≤ v4 ∧ v4 < 4294967296) (g8 : 0 ≤ v8 ∧ v8 < 4294967296) (b12 : Bytes r12)
    (c0 : v0 = IntKind.wrap .u32 n) (c8 : v8 = crcI (four v0 ++ four v4)) (get4 : ∀ N, journal_get.f N (b.drop 4) = some (v4, ()))
    (K : List Int → Int → Int → List (List Int) → Option (Int × List (List Int) × Unit)) (disk : List Int) (s : Nat) (hs : s + b.length ≤ 40000) (i : Int) (acc : List (List Int)) (ha : acc.length ≤ 1024) :
    (∃ c, Begins b n c ∧ gridmarketref44_Recover.q7 50000 K disk s i b acc = K disk ((s + (16 + c.length) : Nat) : Int) i (acc ++ [c])) ∨ ((∀ c, ¬ Begins b n c) ∧ gridmarketref44_Recover.q7 50000 K disk s i b acc = some ((s : Int), acc, ())) := by
  have inv : ∀ c, Begins b n c → v4 = (c.length : Int) ∧ ∃ rest, r12 = c ++ (four (crcI c) ++ rest) := by
    rintro c ⟨⟨rest, e⟩, hc⟩
    rw [eb, rec_eq] at e
    obtain ⟨i1, e⟩ := four_inj g0 (wrap_u32_range n) e
    obtain ⟨i2, e⟩ := four_inj g4 (wrap_u32_range _) e
    obtain ⟨i3, e⟩ := four_inj g8 (crcI_lt (head8_bytes _ _)) e
    exact ⟨by rw [i2, wrap_u32_id (by omega) (by omega)], rest, e⟩
  have tr : ∀ (K : List Int → Int → Int → List Int → Int → List (List Int) → Option (Int × List (List Int) × Unit)) k, gridmarketref44_Recover.q10000009 50000 K disk (s : Int) i b k true acc = some ((s : Int), acc, ()) := fun K k => rfl
  have fl : ∀ (K : List Int → Int → Int → List Int → Int → List (List Int) → Option (Int × List (List Int) × Unit)) k, gridmarketref44_Recover.q10000009 50000 K disk (s : Int) i b k false acc = K disk (s : Int) i b k acc := fun K k => rfl
  have bl : b.length = 12 + r12.length := by rw [eb]; simp only [List.length_append, four_len]; omega
  unfold gridmarketref44_Recover.q7
  rw [if_pos (by omega), show (4 : Int).toNat = 4 from rfl, get_is, get4]
  simp only [Option.bind_some]
  have w4 : IntKind.wrap .i64 v4 = v4 := wrap_i64 (by omega) (by omega)
  rw [w4]
  by_cases c4 : 2097152 < v4
  · refine .inr ⟨fun c hc => ?_, ?_⟩
    · have h1 := (inv c hc).1
      have h2 := hc.2
      omega
    · rw [if_pos (decide_eq_true c4)]
      exact tr _ _
  rw [if_neg (by rw [decide_eq_true_eq]; exact c4)]
  have w16 : IntKind.wrap .i64 (16 + v4) = 16 + v4 := wrap_i64 (by omega) (by omega)
  have w12 : IntKind.wrap .i64 (12 + v4) = 12 + v4 := wrap_i64 (by omega) (by omega)
  rw [w16, w12]
  by_cases cl : (b.length : Int) < 16 + v4
  · refine .inr ⟨fun c hc => ?_, ?_⟩
    · have h1 := (inv c hc).1
      obtain ⟨⟨rest, e⟩, _⟩ := hc
      have := congrArg List.length e
      rw [List.length_append, record_len] at this
      omega
    · rw [if_pos (decide_eq_true cl)]
      exact tr _ _
  rw [if_neg (by rw [decide_eq_true_eq]; exact cl)]
  obtain ⟨k, rfl⟩ := Int.eq_ofNat_of_zero_le g4.1
  obtain ⟨t, rest, ht, e, hrest, hget⟩ := split4 (b := r12.drop k) (b12.mono fun x hx => List.mem_of_mem_drop hx) (by rw [List.length_drop]; omega)
  have hcb : Bytes (r12.take k) := b12.mono fun x hx => List.mem_of_mem_take hx
  have hcl : (r12.take k).length = k := by rw [List.length_take]; omega
  have e12 : r12 = r12.take k ++ (four t ++ rest) := by rw [← e, List.take_append_drop]
  have w2 : 12 + (k : Int) = ((k + 12 : Nat) : Int) := by omega
  have hdrop : b.drop (k + 12) = r12.drop k := by rw [eb]; rfl
  have htake : (b.take (k + 12)).drop 12 = r12.take k := by rw [eb]; rfl
  rw [w2, if_pos (by omega)]
  simp only [Int.toNat_natCast, show (12 : Int).toNat = 12 from rfl]
  rw [hdrop, get_is, hget]
  simp only [Option.bind_some]
  rw [if_pos (by omega), htake, ref_checksum hcb (by omega) (by omega)]
  simp only [Option.bind_some]
  by_cases ct : t = crcI (r12.take k)
  · rw [decide_eq_true ct, show (!true) = false from rfl, fl]
    refine .inl ⟨r12.take k, ⟨⟨rest, ?_⟩, by omega⟩, ?_⟩
    · rw [rec_eq, eb]
      conv => lhs; rw [e12]
      rw [ct, ← c0, hcl, wrap_u32_id (by omega) (by omega), c8]
      congr 4
      unfold head8
      rw [← c0, wrap_u32_id (by omega) (by omega)]
    · unfold gridmarketref44_Recover.q10
      rw [w12, w2, if_pos (by omega)]
      simp only [Int.toNat_natCast, show (12 : Int).toNat = 12 from rfl]
      rw [htake]
      simp only [List.nil_append, List.length_nil, List.length_singleton]
      rw [if_pos (by omega), if_pos (by omega), hcl]
      congr 1
      rw [wrap_i64 (n := (s : Int) + 16) (by omega) (by omega), wrap_i64 (by omega) (by omega)]
      omega
  · rw [decide_eq_false ct, show (!false) = true from rfl, tr]
    refine .inr ⟨fun c' hc' => ?_, rfl⟩
    obtain ⟨i2, rest', e'⟩ := inv c' hc'
    rw [e12] at e'
    obtain ⟨i5, e5⟩ := List.append_inj e' (by omega)
    rw [i5] at ct hcb
    exact ct (four_inj ht (crcI_lt hcb) e5).1

theorem ref_step {disk : List Int} (hbd : Bytes disk) (hld : disk.length ≤ 40000) (K : Int → List (List Int) → Option (Int × List (List Int) × Unit)) (rec : List Int → Int → Int → List (List Int) → Option (Int × List (List Int) × Unit)) (s i : Nat) (hs : s ≤ disk.length) (hi : i < 1024) (acc : List (List Int)) (ha : acc.length ≤ 1024) :
    (∃ c, Begins (disk.drop s) i c ∧ gridmarketref44_Recover.p2 50000 K rec disk s i acc = rec disk ((s + (16 + c.length) : Nat) : Int) ((i + 1 : Nat) : Int) (acc ++ [c])) ∨ ((∀ c, ¬ Begins (disk.drop s) i c) ∧ gridmarketref44_Recover.p2 50000 K rec disk s i acc = some ((s : Int), acc, ())) := by
  obtain ⟨b, hbe⟩ : ∃ b, disk.drop s = b := ⟨_, rfl⟩
  have hb : Bytes b := by rw [← hbe]; exact hbd.mono fun x hx => List.mem_of_mem_drop hx
  have hl : s + b.length = disk.length := by rw [← hbe, List.length_drop]; omega
  unfold gridmarketref44_Recover.p2
  rw [if_pos (decide_eq_true (by omega)), if_pos (by omega), Int.toNat_natCast, hbe]
  have tr : ∀ (K : List Int → Int → Int → List Int → List (List Int) → Option (Int × List (List Int) × Unit)), gridmarketref44_Recover.q10000006 50000 K disk (s : Int) (i : Int) b true acc = some ((s : Int), acc, ()) := fun K => rfl
  have fl : ∀ (K : List Int → Int → Int → List Int → List (List Int) → Option (Int × List (List Int) × Unit)), gridmarketref44_Recover.q10000006 50000 K disk (s : Int) (i : Int) b false acc = K disk (s : Int) (i : Int) b acc := fun K => rfl
  by_cases h16 : (b.length : Int) < 16
  · refine .inr ⟨fun c ⟨⟨rest, e⟩, _⟩ => ?_, ?_⟩
    · have := congrArg List.length e
      rw [List.length_append, record_len] at this
      omega
    · rw [if_pos (decide_eq_true h16)]
      exact tr _
  rw [if_neg (by rw [decide_eq_true_eq]; exact h16)]
  obtain ⟨v0, r4, g0, e0, b4, get0⟩ := split4 hb (by omega)
  have l0 := congrArg List.length e0
  rw [List.length_append, four_len] at l0
  obtain ⟨v4, r8, g4, e4, b8, get4⟩ := split4 b4 (by omega)
  have l4 := congrArg List.length e4
  rw [List.length_append, four_len] at l4
  obtain ⟨v8, r12, g8, e8, b12, get8⟩ := split4 b8 (by omega)
  have eb : b = four v0 ++ (four v4 ++ (four v8 ++ r12)) := by rw [e0, e4, e8]
  have t8 : b.take 8 = four v0 ++ four v4 := by rw [eb]; rfl
  have d8 : b.drop 8 = r8 := by rw [e0, e4]; rfl
  have d4 : b.drop 4 = r4 := by rw [e0]; rfl
  have by8 : Bytes (four v0 ++ four v4) := (four_bytes _).append (four_bytes _)
  have inv : ∀ c, Begins b i c → v0 = IntKind.wrap .u32 (i : Int) ∧ v8 = crcI (four v0 ++ four v4) := by
    rintro c ⟨⟨rest, e⟩, hc⟩
    rw [eb, rec_eq] at e
    obtain ⟨i1, e⟩ := four_inj g0 (wrap_u32_range _) e
    obtain ⟨i2, e⟩ := four_inj g4 (wrap_u32_range _) e
    obtain ⟨i3, e⟩ := four_inj g8 (crcI_lt (head8_bytes _ _)) e
    refine ⟨i1, ?_⟩
    rw [i3]
    unfold head8
    rw [← i1, ← i2]
  rw [get_is, get0]
  simp only [Option.bind_some]
  by_cases c0 : v0 = IntKind.wrap .u32 (i : Int)
  case neg =>
    refine .inr ⟨fun c hc => c0 (inv c hc).1, ?_⟩
    rw [if_pos (by rw [decide_eq_false c0]; rfl)]
    exact tr _
  rw [if_neg (by rw [decide_eq_true c0]; simp), if_pos (by omega), show (8 : Int).toNat = 8 from rfl, d8, get_is, get8]
  simp only [Option.bind_some]
  rw [if_pos (by omega), t8, ref_checksum by8 (by simp [four_len]) (by simp [four_len])]
  simp only [Option.bind_some]
  by_cases c8 : v8 = crcI (four v0 ++ four v4)
  case neg =>
    refine .inr ⟨fun c hc => c8 (inv c hc).2, ?_⟩
    rw [decide_eq_false c8]
    exact tr _
  rw [decide_eq_true c8, show (!true) = false from rfl, fl]
  have hi1 : IntKind.wrap .i64 ((i : Int) + 1) = ((i + 1 : Nat) : Int) := by rw [wrap_i64 (by omega) (by omega)]; rfl
  have := ref_q7 hb (by omega) (i : Int) (by omega) eb g0 g4 g8 b12 c0 c8 (fun N => by rw [d4]; exact get4 N) (fun y0_83 y3_83 y4_83 yr2_83 => gridmarketref44_Recover.q3 50000 (fun y0_84 y3_84 y4_84 yr2_84 => rec y0_84 y3_84 y4_84 yr2_84) y0_83 y3_83 y4_83 yr2_83) disk s (by omega) (i : Int) acc ha
  simp only [gridmarketref44_Recover.q3, hi1] at this
  exact this

theorem own_step {disk : List Int} (hbd : Bytes disk) (hld : disk.length ≤ 40000) (rec : List Int → Int → Int → List (List Int) → Option (Int × List (List Int) × Unit)) (s i : Nat) (hs : s ≤ disk.length) (hi : i < 1024) (acc : List (List Int)) (ha : acc.length ≤ 1024) :
    (∃ c, Begins (disk.drop s) i c ∧ journal_Recover.p2 50000 (fun y3 yr2 => some (y3, yr2, ())) rec disk s i acc = rec disk ((s + (16 + c.length) : Nat) : Int) ((i + 1 : Nat) : Int) (acc ++ [c])) ∨ ((∀ c, ¬ Begins (disk.drop s) i c) ∧ journal_Recover.p2 50000 (fun y3 yr2 => some (y3, yr2, ())) rec disk s i acc = some ((s : Int), acc, ())) := by
  have hl : s + (disk.drop s).length = disk.length := by rw [List.length_drop]; omega
  unfold journal_Recover.p2
  rw [if_pos (decide_eq_true (by omega)), if_pos (by omega), Int.toNat_natCast]
  rcases first_spec (b := disk.drop s) (hbd.mono fun x hx => List.mem_of_mem_drop hx) (by omega) (i : Int) with ⟨c, h1, h2⟩ | ⟨h1, h2⟩
  · refine .inl ⟨c, h1, ?_⟩
    have hcl : 16 + c.length ≤ (disk.drop s).length := by
      obtain ⟨⟨rest, e⟩, _⟩ := h1
      have := congrArg List.length e
      rw [List.length_append, record_len] at this
      omega
    rw [h2]
    simp only [Option.bind_some, Bool.not_true, Bool.false_eq_true, if_false, List.nil_append, List.length_nil, List.length_singleton]
    rw [if_pos (by omega), if_pos (by omega), wrap_i64 (by omega) (by omega), wrap_i64 (by omega) (by omega)]
    rfl
  · refine .inr ⟨h1, ?_⟩
    rw [h2]
    rfl

theorem both_loop {disk : List Int} (hbd : Bytes disk) (hld : disk.length ≤ 40000) : ∀ (m s i : Nat) (acc : List (List Int)), s ≤ disk.length → i ≤ 1024 → acc.length = i → 1024 - i < m →
    ∃ (s' : Nat) (l : List (List Int)), journal_Recover.l2 50000 (fun y3 yr2 => some (y3, yr2, ())) m disk s i acc = some ((s' : Int), l, ()) ∧ gridmarketref44_Recover.l2 50000 (fun y3 yr2 => some (y3, yr2, ())) m disk s i acc = some ((s' : Int), l, ()) ∧ s' ≤ disk.length ∧ l.length ≤ 1024
  | 0, s, i, acc, _, _, _, hm => by omega
  | m + 1, s, i, acc, hs, hi, ha, hm => by
    have e1 : journal_Recover.l2 50000 (fun y3 yr2 => some (y3, yr2, ())) (m + 1) disk s i acc = journal_Recover.p2 50000 (fun y3 yr2 => some (y3, yr2, ())) (journal_Recover.l2 50000 (fun y3 yr2 => some (y3, yr2, ())) m) disk s i acc := rfl
    have e2 : gridmarketref44_Recover.l2 50000 (fun y3 yr2 => some (y3, yr2, ())) (m + 1) disk s i acc = gridmarketref44_Recover.p2 50000 (fun y3 yr2 => some (y3, yr2, ())) (gridmarketref44_Recover.l2 50000 (fun y3 yr2 => some (y3, yr2, ())) m) disk s i acc := rfl
    rw [e1, e2]
    by_cases h : i = 1024
    · refine ⟨s, acc, ?_, ?_, hs, by omega⟩
      · unfold journal_Recover.p2; rw [if_neg (by rw [h]; decide)]
      · unfold gridmarketref44_Recover.p2; rw [if_neg (by rw [h]; decide)]
    · rcases own_step hbd hld (journal_Recover.l2 50000 (fun y3 yr2 => some (y3, yr2, ())) m) s i hs (by omega) acc (by omega) with ⟨c, h1, h2⟩ | ⟨h1, h2⟩
      · rcases ref_step hbd hld (fun y3 yr2 => some (y3, yr2, ())) (gridmarketref44_Recover.l2 50000 (fun y3 yr2 => some (y3, yr2, ())) m) s i hs (by omega) acc (by omega) with ⟨c', h3, h4⟩ | ⟨h3, _⟩
        · have := begins_unique h1 h3
          subst this
          rw [h2, h4]
          have hcl : 16 + c.length ≤ (disk.drop s).length := by
            obtain ⟨⟨rest, e⟩, _⟩ := h1
            have := congrArg List.length e
            rw [List.length_append, record_len] at this
            omega
          rw [List.length_drop] at hcl
          exact both_loop hbd hld m _ _ _ (by omega) (by omega) (by simp [ha]) (by omega)
        · exact absurd h1 (h3 c)
      · rcases ref_step hbd hld (fun y3 yr2 => some (y3, yr2, ())) (gridmarketref44_Recover.l2 50000 (fun y3 yr2 => some (y3, yr2, ())) m) s i hs (by omega) acc (by omega) with ⟨c', h3, h4⟩ | ⟨_, h4⟩
        · exact absurd h3 (h1 c')
        · exact ⟨s, acc, h2, h4, hs, by omega⟩
theorem both_recover {disk : List Int} (hbd : Bytes disk) (hld : disk.length ≤ 40000) : ∃ (s : Nat) (l : List (List Int)), journal_Recover.f 50000 disk = some ((s : Int), l, ()) ∧ gridmarketref44_Recover.f 50000 disk = some ((s : Int), l, ()) ∧ s ≤ disk.length ∧ l.length ≤ 1024 :=
  both_loop hbd hld 50000 0 0 [] (by omega) (by omega) rfl (by omega)

theorem both_append {disk c : List Int} (hbd : Bytes disk) (hld : disk.length ≤ 40000) (hc : Bytes c) (hcl : c.length ≤ 200) {s : Nat} {l : List (List Int)} (h1 : journal_Recover.f 50000 disk = some ((s : Int), l, ())) (h2 : gridmarketref44_Recover.f 50000 disk = some ((s : Int), l, ())) (hs : s ≤ disk.length) (hl : l.length ≤ 1024) :
    ∃ r, journal_Append.f 50000 disk c = some r ∧ gridmarketref44_Append.f 50000 disk c = some r := by
  have hrl := record_len (l.length : Int) c
  have ht : (disk.take s).length = s := by rw [List.length_take]; omega
  unfold journal_Append.f gridmarketref44_Append.f
  rw [if_neg (by rw [decide_eq_true_eq]; omega), if_neg (by rw [decide_eq_true_eq]; omega), h1, h2]
  simp only [Option.bind_some]
  by_cases hn : 1024 ≤ (l.length : Int)
  · rw [if_pos (decide_eq_true hn), if_pos (decide_eq_true hn)]
    exact ⟨_, rfl, rfl⟩
  · rw [if_neg (by rw [decide_eq_true_eq]; exact hn), if_neg (by rw [decide_eq_true_eq]; exact hn), enc_ok (by omega) (by omega) hc (by omega)]
    simp only [Option.bind_some]
    rw [if_neg (by simp), wrap_i64 (by omega) (by omega), if_neg (by rw [decide_eq_true_eq]; omega), if_pos (by omega), Int.toNat_natCast, wrap_i64 (n := (s : Int) + 16) (by omega) (by omega), wrap_i64 (by omega) (by omega), decide_eq_false (by omega)]
    have fl : ∀ K, gridmarketref44_Append.q10000005 50000 K disk c (s : Int) false l = K disk c (s : Int) l := fun K => rfl
    rw [fl]
    unfold gridmarketref44_Append.q6
    rw [if_pos (by simp only [List.length_nil]; omega), Int.toNat_natCast]
    simp only [List.nil_append, List.length_nil]
    rw [if_pos (by omega), if_pos (by omega), if_pos (by omega), rec_ok hc (by omega)]
    simp only [Option.bind_some]
    rw [if_pos (by omega)]
    exact ⟨_, rfl, rfl⟩

theorem rec_l12 {c : List Int} (hc : Bytes c) (hcl : c.length ≤ 200) (ds : List (List Int)) (hd : ∀ d ∈ ds, Bytes d ∧ d.length ≤ 40000) (hn : ds.length ≤ 100) : ∀ (m i : Nat), i ≤ ds.length →
    gridmarketlaw44_JournalRecovers.l12 50000 (fun (_ : Unit) => some (true, ())) (m + (ds.length - i) + 1) c (i : Int) ds = some (true, ())
  | m, i, hi => by
    have e : gridmarketlaw44_JournalRecovers.l12 50000 (fun (_ : Unit) => some (true, ())) (m + (ds.length - i) + 1) c (i : Int) ds = gridmarketlaw44_JournalRecovers.p12 50000 (fun (_ : Unit) => some (true, ())) (gridmarketlaw44_JournalRecovers.l12 50000 (fun (_ : Unit) => some (true, ())) (m + (ds.length - i))) c (i : Int) ds := rfl
    rw [e]
    unfold gridmarketlaw44_JournalRecovers.p12
    by_cases h : i = ds.length
    · subst h
      rw [if_neg (by simp)]
    · have hi' : i < ds.length := by omega
      have hg : ds.getD i [] = ds[i] := by rw [List.getD_eq_getElem?_getD, List.getElem?_eq_getElem hi']; rfl
      obtain ⟨hb, hl⟩ := hd _ (List.getElem_mem hi')
      obtain ⟨s, l, h1, h2, h3, h4⟩ := both_recover hb hl
      obtain ⟨r, h5, h6⟩ := both_append hb hl hc hcl h1 h2 h3 h4
      rw [if_pos (decide_eq_true (by omega)), if_pos (by omega), Int.toNat_natCast, hg, h1]
      simp only [Option.bind_some]
      rw [if_pos (by omega), h2]
      simp only [Option.bind_some]
      rw [if_pos (by omega), h5]
      simp only [Option.bind_some]
      rw [if_pos (by omega), h6, awake_N]
      simp only [Option.bind_some, Bool.not_true, Bool.false_eq_true, if_false, decide_true]
      rw [same_ok (by omega)]
      simp only [Option.bind_some, Bool.not_true, Bool.false_eq_true, if_false, beq_self_eq_true]
      have fl : ∀ K, gridmarketlaw44_JournalRecovers.q10000019 50000 K c (i : Int) false ds = K c (i : Int) ds := fun K => rfl
      rw [fl]
      unfold gridmarketlaw44_JournalRecovers.q13
      rw [wrap_i64 (by omega) (by omega), show (i : Int) + 1 = ((i + 1 : Nat) : Int) from rfl, show m + (ds.length - i) = m + (ds.length - (i + 1)) + 1 by omega]
      exact rec_l12 hc hcl ds hd hn m (i + 1) (by omega)
  termination_by m i => ds.length - i

theorem rec_l7 (K : List (List Int) → List Int → List Int → List Int → List Int → Option (Bool × Unit)) (l : List (List Int)) (raw c ed d : List Int) (hed : ed.length ≤ 12) {n : Nat} (hn : n ≤ 40000) : ∀ (m i : Nat) (ch : List Int), Bytes ch → ch.length = n → i ≤ ed.length + 2 →
    ∃ ch', Bytes ch' ∧ ch'.length = n ∧ gridmarketlaw44_JournalRecovers.l7 50000 K (m + (ed.length + 2 - i) + 1) l raw c ed d (i : Int) ch = K l raw c d ch'
  | m, i, ch, hb, hl, hi => by
    have e : gridmarketlaw44_JournalRecovers.l7 50000 K (m + (ed.length + 2 - i) + 1) l raw c ed d (i : Int) ch = gridmarketlaw44_JournalRecovers.p7 50000 K (gridmarketlaw44_JournalRecovers.l7 50000 K (m + (ed.length + 2 - i))) l raw c ed d (i : Int) ch := rfl
    rw [e]
    unfold gridmarketlaw44_JournalRecovers.p7
    have w1 : IntKind.wrap .i64 ((i : Int) + 1) = ((i + 1 : Nat) : Int) := by rw [wrap_i64 (by omega) (by omega)]; rfl
    have w2 : IntKind.wrap .i64 ((i : Int) + 2) = ((i + 2 : Nat) : Int) := by rw [wrap_i64 (by omega) (by omega)]; rfl
    rw [w1, w2]
    by_cases h : i + 1 < ed.length
    · rw [if_pos (decide_eq_true (by omega))]
      by_cases h0 : 0 < (ch.length : Int)
      · rw [if_pos (decide_eq_true h0), if_pos (by omega)]
        obtain ⟨t, ht, t0, t1⟩ := mod_ok (N := 50000) (ed.getD ((i : Int).toNat) 0) (a1 := (ch.length : Int)) h0 (by omega)
        rw [ht]
        simp only [Option.bind_some]
        rw [if_pos (by omega), if_pos (by omega), if_pos (by omega)]
        obtain ⟨t', rfl⟩ := Int.eq_ofNat_of_zero_le t0
        rw [Int.toNat_natCast]
        have hv : ∃ v : Nat, ch.getD t' 0 = (v : Int) ∧ v < 256 := by
          have hlt : t' < ch.length := by omega
          rw [List.getD_eq_getElem?_getD, List.getElem?_eq_getElem hlt]
          have := hb _ (List.getElem_mem hlt)
          exact ⟨(ch[t']).toNat, by simp only [Option.getD_some]; omega, by omega⟩
        obtain ⟨v, hv, hv2⟩ := hv
        have hu : ∃ u : Nat, IntKind.wrap .u8 (ed.getD (((i + 1 : Nat) : Int).toNat) 0) = (u : Int) ∧ u < 256 := by
          rw [wrap_u8]
          exact ⟨((ed.getD (((i + 1 : Nat) : Int).toNat) 0) % 256).toNat, by omega, by omega⟩
        obtain ⟨u, hu, hu2⟩ := hu
        rw [hv, hu, xor_u8 _ _ hv2 hu2, show m + (ed.length + 2 - i) = (m + 1) + (ed.length + 2 - (i + 2)) + 1 by omega]
        have hx : v ^^^ u < 2 ^ 8 := Nat.xor_lt_two_pow (by omega) (by omega)
        exact rec_l7 K l raw c ed d hed hn (m + 1) (i + 2) _ (fun x hx' => by
          rcases List.mem_or_eq_of_mem_set hx' with h | h
          · exact hb x h
          · rw [h]; omega) (by rw [List.length_set, hl]) (by omega)
      · rw [if_neg (by rw [decide_eq_true_eq]; exact h0)]
        exact ⟨ch, hb, hl, rfl⟩
    · rw [if_neg (by rw [decide_eq_true_eq]; omega)]
      exact ⟨ch, hb, hl, rfl⟩
  termination_by m i => ed.length + 2 - i

theorem law_recovers (l : List (List Int)) (raw c more : List Int) (cut : Int) (ed : List Int) (hb : ∀ c ∈ l, Bytes c) (hr : Bytes raw) (hc : Bytes c) (hm : Bytes more) : gridmarketlaw44_JournalRecovers.f 50000 l raw c more cut ed = some (true, ()) := by
  have tr : ∀ K, gridmarketlaw44_JournalRecovers.q10000002 50000 K l raw c more cut ed true = some (true, ()) := fun K => rfl
  have fl : ∀ K, gridmarketlaw44_JournalRecovers.q10000002 50000 K l raw c more cut ed false = K l raw c more cut ed := fun K => rfl
  unfold gridmarketlaw44_JournalRecovers.f
  rcases light_ok l with ⟨h1, hl, hs⟩ | h1
  case inr => rw [h1]; simp only [Option.bind_some, Bool.not_false, if_true]; exact tr _
  rw [h1]
  simp only [Option.bind_some, Bool.not_true, Bool.false_eq_true, if_false]
  by_cases h2 : 400 < (raw.length : Int)
  · rw [if_pos (decide_eq_true h2)]; exact tr _
  rw [if_neg (by rw [decide_eq_true_eq]; exact h2)]
  by_cases h3 : 200 < (c.length : Int)
  · rw [if_pos (decide_eq_true h3)]; exact tr _
  rw [if_neg (by rw [decide_eq_true_eq]; exact h3)]
  by_cases h4 : 100 < (more.length : Int)
  · rw [if_pos (decide_eq_true h4)]; exact tr _
  rw [if_neg (by rw [decide_eq_true_eq]; exact h4)]
  by_cases h5 : 12 < (ed.length : Int)
  · rw [decide_eq_true h5]; exact tr _
  rw [decide_eq_false h5, fl]
  have hdk := disk_ok hb (fun c hm => by have := hs c hm; omega) hl
  have hlen := dsk_bound hs 0
  have hdl : (dsk 0 l).length ≤ 2592 := by
    have : l.length * (16 + 200) ≤ 12 * (16 + 200) := Nat.mul_le_mul_right _ hl
    omega
  have hdb := dsk_bytes l 0 hb
  unfold gridmarketlaw44_JournalRecovers.q3
  rw [hdk]
  simp only [Option.bind_some]
  rw [wrap_i64 (by omega) (by omega)]
  obtain ⟨t, ht, t0, t1⟩ := mod_ok (N := 50000) cut (a1 := ((dsk 0 l).length : Int) + 1) (by omega) (by omega)
  rw [ht]
  simp only [Option.bind_some]
  obtain ⟨k, rfl⟩ := Int.eq_ofNat_of_zero_le t0
  rw [Int.toNat_natCast, if_pos (by omega), if_pos (by omega)]
  have hkl : ((dsk 0 l).take k ++ more).length ≤ 3000 := by rw [List.length_append, List.length_take]; omega
  have hkb : Bytes ((dsk 0 l).take k ++ more) := (hdb.mono fun x hx => List.mem_of_mem_take hx).append hm
  rw [List.length_nil, if_pos (by omega)]
  simp only [List.nil_append]
  obtain ⟨ch', hb', hl', e⟩ := rec_l7 (fun y0_9 y1_9 y2_9 y13_9 yr14_9 => (gridmarketlaw44_disk.f 50000 y0_9).bind fun t11 => (gridmarketlaw44_JournalRecovers.l12 50000 (fun (_ : Unit) => some (true, ())) 50000 y2_9 0 [y1_9, y13_9, yr14_9, t11.1])) l raw c ed ((dsk 0 l).take k ++ more) (by omega) (n := ((dsk 0 l).take k ++ more).length) (by omega) (49997 - ed.length) 0 _ hkb rfl (by omega)
  rw [show 49997 - ed.length + (ed.length + 2 - 0) + 1 = 50000 by omega] at e
  refine Eq.trans e ?_
  rw [hdk]
  simp only [Option.bind_some]
  have := rec_l12 hc (by omega) [raw, (dsk 0 l).take k ++ more, ch', dsk 0 l] (fun d hd => by
    simp only [List.mem_cons, List.not_mem_nil, or_false] at hd
    rcases hd with rfl | rfl | rfl | rfl
    · exact ⟨hr, by omega⟩
    · exact ⟨hkb, by omega⟩
    · exact ⟨hb', by omega⟩
    · exact ⟨hdb, by omega⟩) (by simp) 49995 0 (by simp)
  exact this
theorem plainJournalRecovers (z : slotsX Unit (gridmarketlaw44_JournalRecovers.F 0).din.slots) (h : argsGood (gridmarketlaw44_JournalRecovers.F 0).din.slots z) : ∃ N, (gridmarketlaw44_JournalRecovers.F N).run z = some (true, ()) :=
  ⟨50000, law_recovers z.1 z.2.1 z.2.2.1 z.2.2.2.1 z.2.2.2.2.1 z.2.2.2.2.2.1 (bytess_of h.1.2.2) (bytes_of h.2.1.2.2) (bytes_of h.2.2.1.2.2) (bytes_of h.2.2.2.1.2.2)⟩
end Go.Proofs.Ytbcbblpkhgmahaa.Abs.T
end
