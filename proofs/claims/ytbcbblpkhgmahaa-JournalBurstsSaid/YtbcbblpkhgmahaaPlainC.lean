import Derived.Test.YtbcbblpkhgmahaaPlainB
set_option linter.unusedVariables false
set_option linter.unusedSimpArgs false
section
namespace Go.Proofs.Ytbcbblpkhgmahaa.Abs.T
open Go.Proofs.Ytbcbblpkhgmahaa.Abs.Crc Go.Proofs.Ytbcbblpkhgmahaa.Abs.Ints

theorem full_loop (K : List Int → Int → List Int → Option (Bool × Unit)) {c : List Int} (hc : Bytes c) (hcl : c.length ≤ 4) {n : Nat} (hn : n ≤ 1024) : ∀ (m i : Nat), i ≤ n →
    gridmarketlaw44_JournalFull.l6 50000 K (m + (n - i) + 1) c (n : Int) (i : Int) (dsk 0 (List.replicate i c)) = K c (n : Int) (dsk 0 (List.replicate n c))
  | m, i, hi => by
    show gridmarketlaw44_JournalFull.p6 50000 K (gridmarketlaw44_JournalFull.l6 50000 K (m + (n - i))) c (n : Int) (i : Int) (dsk 0 (List.replicate i c)) = _
    unfold gridmarketlaw44_JournalFull.p6
    by_cases h : i = n
    · subst h
      rw [if_neg (by simp)]
    · have hb : (dsk 0 (List.replicate i c)).length ≤ i * (16 + 4) := by
        have := dsk_bound (l := List.replicate i c) (k := 4) (fun x hx => by rw [List.eq_of_mem_replicate hx]; exact hcl) 0
        simpa using this
      rw [if_pos (decide_eq_true (by omega)), rec_ok hc (by omega)]
      simp only [Option.bind_some]
      rw [if_pos (by rw [record_len]; omega), wrap_i64 (by omega) (by omega), show (i : Int) + 1 = ((i + 1 : Nat) : Int) from rfl, show m + (n - i) = m + (n - (i + 1)) + 1 by omega]
      have e : dsk 0 (List.replicate i c) ++ record (i : Int) c = dsk 0 (List.replicate (i + 1) c) := by
        have := dsk_snoc (List.replicate i c) c
        rw [List.length_replicate] at this
        rw [List.replicate_succ', this]
      rw [e]
      exact full_loop K hc hcl hn m (i + 1) (by omega)
  termination_by m i => n - i

theorem law_full (c : List Int) (less : Int) (hc : Bytes c) : gridmarketlaw44_JournalFull.f 50000 c less = some (true, ()) := by
  unfold gridmarketlaw44_JournalFull.f
  by_cases h4 : 4 < (c.length : Int)
  · rw [if_pos (decide_eq_true h4)]
  rw [if_neg (by rw [decide_eq_true_eq]; exact h4)]
  obtain ⟨t, hm, ht0, ht1⟩ := mod_ok (N := 50000) less (a1 := 3) (by omega) (by omega)
  obtain ⟨t, rfl⟩ := Int.eq_ofNat_of_zero_le ht0
  obtain ⟨n, hn⟩ : ∃ n : Nat, n = 1024 - t := ⟨_, rfl⟩
  have hw : IntKind.wrap .i64 (1024 - (t : Int)) = (n : Int) := by rw [wrap_i64 (by omega) (by omega)]; omega
  rw [hm]
  simp only [Option.bind_some, hw]
  have hcl : c.length ≤ 4 := by omega
  have hl := fun K => full_loop K hc hcl (n := n) (by omega) (49999 - n) 0 (by omega)
  rw [show 49999 - n + (n - 0) + 1 = 50000 by omega] at hl
  refine (hl _).trans ?_
  have hlr : (List.replicate n c).length = n := List.length_replicate
  have hbs : Bytes (dsk 0 (List.replicate n c)) := dsk_bytes _ 0 fun x hx => by rw [List.eq_of_mem_replicate hx]; exact hc
  have hdl : (dsk 0 (List.replicate n c)).length ≤ n * (16 + 4) := by
    have := dsk_bound (l := List.replicate n c) (k := 4) (fun x hx => by rw [List.eq_of_mem_replicate hx]; exact hcl) 0
    simpa using this
  have hdl' : (dsk 0 (List.replicate n c)).length ≤ 20480 := Nat.le_trans hdl (by omega)
  have hr : journal_Recover.f 50000 (dsk 0 (List.replicate n c)) = some (((dsk 0 (List.replicate n c)).length : Int), List.replicate n c, ()) :=
    recover_spec (l := List.replicate n c) (tail := []) (by simp) hbs (by omega) (by omega) (.inr (not_begins_nil _))
  by_cases hf : n = 1024
  · have ha : journal_Append.f 50000 (dsk 0 (List.replicate n c)) c = some (19, [], ()) := by
      unfold journal_Append.f
      rw [if_neg (by rw [decide_eq_true_eq]; omega), hr]
      simp only [Option.bind_some]
      rw [if_pos (by rw [decide_eq_true_eq]; omega)]
    rw [ha, hr, awake_N]
    simp only [Option.bind_some, Bool.not_true, Bool.false_eq_true, if_false]
    rw [if_neg (by rw [hlr]; simp)]
    unfold gridmarketlaw44_JournalFull.q10000012
    rw [if_neg (by simp)]
    show gridmarketlaw44_JournalFull.q13 50000 c (n : Int) _ _ _ = _
    unfold gridmarketlaw44_JournalFull.q13
    rw [if_pos (by rw [decide_eq_true_eq]; omega), if_pos (by simp)]
    simp
  · have ha := append_ok (l := List.replicate n c) (tail := []) (c := c) (disk := dsk 0 (List.replicate n c)) (by simp) hbs (by omega) (by omega) (not_begins_nil _) hc (by omega)
    rw [ha, hr, awake_N]
    simp only [Option.bind_some, Bool.not_true, Bool.false_eq_true, if_false]
    rw [if_neg (by rw [hlr]; simp)]
    unfold gridmarketlaw44_JournalFull.q10000012
    rw [if_neg (by simp)]
    show gridmarketlaw44_JournalFull.q13 50000 c (n : Int) _ _ _ = _
    unfold gridmarketlaw44_JournalFull.q13
    rw [if_neg (by rw [decide_eq_true_eq]; omega), if_pos (by simp)]
    rw [wrap_i64 (n := ((dsk 0 (List.replicate n c)).length : Int) + 16) (by omega) (by omega), wrap_i64 (by omega) (by omega), List.length_append, record_len]
    rw [decide_eq_true (by omega)]
theorem plainJournalFull (z : slotsX Unit (gridmarketlaw44_JournalFull.F 0).din.slots) (h : argsGood (gridmarketlaw44_JournalFull.F 0).din.slots z) : ∃ N, (gridmarketlaw44_JournalFull.F N).run z = some (true, ()) :=
  ⟨50000, law_full z.1 z.2.1 (bytes_of h.1.2.2)⟩
end Go.Proofs.Ytbcbblpkhgmahaa.Abs.T
end

section
namespace Go.Proofs.Ytbcbblpkhgmahaa.Abs.T
open Go.Proofs.Ytbcbblpkhgmahaa.Abs.Crc Go.Proofs.Ytbcbblpkhgmahaa.Abs.Ints

theorem nats_inj : ∀ {a b : List Int}, Bytes a → Bytes b → nats a = nats b → a = b
  | [], [], _, _, _ => rfl
  | x :: a, y :: b, ha, hb, h => by
    simp only [nats, List.map_cons, List.cons.injEq] at h
    have h1 := ha x (by simp)
    have h2 := hb y (by simp)
    rw [show x = y by omega, nats_inj (fun z hz => ha z (by simp [hz])) (fun z hz => hb z (by simp [hz])) h.2]
  | [], _ :: _, _, _, h => by simp [nats] at h
  | _ :: _, [], _, _, h => by simp [nats] at h

/-- A text with its sum behind it leaves one and the same remainder. -/
theorem residue {u : List Int} (hu : Bytes u) : crcN 4294967295 (nats (u ++ four (crcI u))) = stepsN 32 4294967295 := by
  have hs : crcN 4294967295 (nats u) < 2 ^ 32 := crcN_lt _ (by decide) hu.nats
  have hv : 4294967295 ^^^ crcN 4294967295 (nats u) < 2 ^ 32 := Nat.xor_lt_two_pow (by decide) hs
  have e1 : nats (u ++ four (crcI u)) = nats u ++ nats (four (crcI u)) := by simp [nats]
  have e2 : crcN 4294967295 (nats u ++ nats (four (crcI u))) = crcN (crcN 4294967295 (nats u)) (nats (four (crcI u))) := by unfold crcN; rw [List.foldl_append]
  have e3 : nats (four (crcI u)) = [(4294967295 ^^^ crcN 4294967295 (nats u)) % 256, (4294967295 ^^^ crcN 4294967295 (nats u)) / 256 % 256, (4294967295 ^^^ crcN 4294967295 (nats u)) / 65536 % 256, (4294967295 ^^^ crcN 4294967295 (nats u)) / 16777216] := by
    unfold crcI
    rw [four_nat _ hv]
    rfl
  have e4 : numL (nats (four (crcI u))) = 4294967295 ^^^ crcN 4294967295 (nats u) := by
    rw [e3]
    simp only [numL]
    omega
  rw [e1, e2, crcN_num _ _ (four_bytes _).nats, e4]
  rw [show crcN 4294967295 (nats u) ^^^ (4294967295 ^^^ crcN 4294967295 (nats u)) = 4294967295 by rw [Nat.xor_comm 4294967295, ← Nat.xor_assoc, Nat.xor_self, Nat.zero_xor]]
  rfl

theorem parts4 (X : List Int) (r : Nat) : X = X.take r ++ (X.drop r).take 4 ++ X.drop (r + 4) := by
  rw [List.append_assoc, ← List.drop_drop, List.take_append_drop, List.take_append_drop]
theorem window {X Y : List Int} (hX : Bytes X) (hY : Bytes Y) (hl : X.length = Y.length) {r : Nat} (ho : ∀ j, j < r ∨ r + 4 ≤ j → X[j]? = Y[j]?) (hc : crcN 4294967295 (nats X) = crcN 4294967295 (nats Y)) : X = Y := by
  have h1 : X.take r = Y.take r := by
    refine List.ext_getElem? fun j => ?_
    rw [List.getElem?_take, List.getElem?_take]
    split
    · rename_i h; exact ho j (.inl h)
    · rfl
  have h3 : X.drop (r + 4) = Y.drop (r + 4) := by
    refine List.ext_getElem? fun j => ?_
    rw [List.getElem?_drop, List.getElem?_drop]
    exact ho _ (.inr (by omega))
  have bX : ∀ {Z : List Int}, Bytes Z → Bytes (Z.take r) ∧ Bytes ((Z.drop r).take 4) ∧ Bytes (Z.drop (r + 4)) := fun h =>
    ⟨h.mono fun x hx => List.mem_of_mem_take hx, h.mono fun x hx => List.mem_of_mem_drop (List.mem_of_mem_take hx), h.mono fun x hx => List.mem_of_mem_drop hx⟩
  have split : ∀ Z : List Int, nats Z = nats (Z.take r) ++ nats ((Z.drop r).take 4) ++ nats (Z.drop (r + 4)) := fun Z => by
    unfold nats
    rw [← List.map_append, ← List.map_append, ← parts4]
  have hle : ((X.drop r).take 4).length = ((Y.drop r).take 4).length := by rw [List.length_take, List.length_take, List.length_drop, List.length_drop, hl]
  rw [split X, split Y, ← h1, ← h3] at hc
  have h2 := burst (x := 4294967295) (by decide) (bX hX).1.nats (bX hX).2.1.nats (bX hY).2.1.nats (bX hX).2.2.nats (by unfold nats; rw [List.length_map, List.length_map, hle]) (by unfold nats; rw [List.length_map, List.length_take]; omega) hc
  have h2 := nats_inj (bX hX).2.1 (bX hY).2.1 h2
  rw [parts4 X r, parts4 Y r, h1, h2, h3]

/-- A record with a burst in it is no record. -/
theorem burst_begins {n : Int} {c0 rest0 tail : List Int} (hc0 : Bytes c0) (hl0 : c0.length ≤ 2097152) (ht : Bytes tail) (hl : tail.length = (record n c0 ++ rest0).length) {r : Nat} (hr : r < 16 + c0.length)
    (ho : ∀ j, j < r ∨ r + 4 ≤ j → tail[j]? = (record n c0 ++ rest0)[j]?) (hd : tail[r]? ≠ (record n c0 ++ rest0)[r]?) (c : List Int) : ¬ Begins tail n c := by
  rintro ⟨⟨rest, e⟩, hlc⟩
  have hcb : Bytes c := ht.mono fun x hx => by rw [e]; simp [record, hx]
  have key : ∀ (k : Nat) (d : List Int) (rs : List Int), record n d ++ rs = (head8 n d.length ++ four (crcI (head8 n d.length))) ++ ((d ++ four (crcI d)) ++ rs) := fun _ d rs => by simp only [record, List.append_assoc]
  have e1 := key 0 c rest
  have e0 := key 0 c0 rest0
  have h12 : ∀ k : Nat, (head8 n k ++ four (crcI (head8 n k))).length = 12 := fun _ => rfl
  have b12 : ∀ k : Nat, Bytes (head8 n k ++ four (crcI (head8 n k))) := fun k => (head8_bytes _ _).append (four_bytes _)
  have g : ∀ (d rs : List Int) (j : Nat), j < 12 → (record n d ++ rs)[j]? = (head8 n d.length ++ four (crcI (head8 n d.length)))[j]? := fun d rs j hj => by
    rw [key 0, List.getElem?_append_left (by rw [h12]; exact hj)]
  by_cases h : r < 12
  · have hw : head8 n c.length ++ four (crcI (head8 n c.length)) = head8 n c0.length ++ four (crcI (head8 n c0.length)) := by
      refine window (b12 _) (b12 _) ((h12 _).trans (h12 _).symm) (r := r) (fun j hj => ?_) (by rw [residue (head8_bytes _ _), residue (head8_bytes _ _)])
      by_cases hj12 : j < 12
      · rw [← g c rest j hj12, ← g c0 rest0 j hj12, ← e]
        exact ho j hj
      · rw [List.getElem?_eq_none (by rw [h12]; omega), List.getElem?_eq_none (by rw [h12]; omega)]
    apply hd
    rw [e, g _ _ r h, g _ _ r h, hw]
  · have hh : head8 n c.length ++ four (crcI (head8 n c.length)) = head8 n c0.length ++ four (crcI (head8 n c0.length)) := by
      refine List.ext_getElem? fun j => ?_
      by_cases hj12 : j < 12
      · have := ho j (.inl (by omega))
        rw [e, g _ _ j hj12, g _ _ j hj12] at this
        exact this
      · rw [List.getElem?_eq_none (by rw [h12]; omega), List.getElem?_eq_none (by rw [h12]; omega)]
    have hlen : c.length = c0.length := by
      have h8 := (List.append_inj hh ((head8_len _ _).trans (head8_len _ _).symm)).1
      unfold head8 at h8
      have h4 := (List.append_inj h8 ((four_len _).trans (four_len _).symm)).2
      have := (four_inj (wrap_u32_range (c.length : Int)) (wrap_u32_range (c0.length : Int)) (r := []) (s := []) (by rw [h4])).1
      rw [wrap_u32_id (by omega) (by omega), wrap_u32_id (by omega) (by omega)] at this
      omega
    have g4 : ∀ (d rs : List Int) (j : Nat), j < d.length + 4 → (record n d ++ rs)[12 + j]? = (d ++ four (crcI d))[j]? := fun d rs j hj => by
      rw [key 0, List.getElem?_append_right (by rw [h12]; omega), h12, Nat.add_sub_cancel_left, List.getElem?_append_left (by rw [List.length_append, four_len]; omega)]
    have hw : c ++ four (crcI c) = c0 ++ four (crcI c0) := by
      refine window (hcb.append (four_bytes _)) (hc0.append (four_bytes _)) (by rw [List.length_append, List.length_append, hlen, four_len, four_len]) (r := r - 12) (fun j hj => ?_) (by rw [residue hcb, residue hc0])
      by_cases hj4 : j < c.length + 4
      · rw [← g4 c rest j hj4, ← g4 c0 rest0 j (by omega), ← e]
        exact ho _ (by omega)
      · rw [List.getElem?_eq_none (by rw [List.length_append, four_len]; omega), List.getElem?_eq_none (by rw [List.length_append, four_len]; omega)]
    apply hd
    rw [e, show r = 12 + (r - 12) by omega, g4 _ _ _ (by omega), g4 _ _ _ (by omega), hw]
end Go.Proofs.Ytbcbblpkhgmahaa.Abs.T
end

section
namespace Go.Proofs.Ytbcbblpkhgmahaa.Abs.T
open Go.Proofs.Ytbcbblpkhgmahaa.Abs.Crc Go.Proofs.Ytbcbblpkhgmahaa.Abs.Ints

/-- The first byte of the burst that is not zero. -/
theorem bursts_l7 (K : List (List Int) → Int → Int → List Int → List Int → Option (Bool × Unit)) (l : List (List Int)) (p : Int) (by' d : List Int) (h4 : by'.length = 4) (hz : by' ≠ List.replicate 4 0) : ∀ (m i : Nat), i ≤ 4 → (∀ j, j < i → by'.getD j 0 = 0) →
    ∃ f : Nat, f < 4 ∧ by'.getD f 0 ≠ 0 ∧ gridmarketlaw44_JournalBursts.l7 50000 K (m + (4 - i) + 1) l p (i : Int) by' d = K l p (f : Int) by' d
  | m, i, hi, hj => by
    have e : gridmarketlaw44_JournalBursts.l7 50000 K (m + (4 - i) + 1) l p (i : Int) by' d = gridmarketlaw44_JournalBursts.p7 50000 K (gridmarketlaw44_JournalBursts.l7 50000 K (m + (4 - i))) l p (i : Int) by' d := rfl
    rw [e]
    unfold gridmarketlaw44_JournalBursts.p7
    by_cases h : i = 4
    · subst h
      exfalso
      apply hz
      refine List.ext_getElem (by simp [h4]) fun j h1 h2 => ?_
      have := hj j (by omega)
      rw [List.getD_eq_getElem?_getD, List.getElem?_eq_getElem h1, Option.getD_some] at this
      rw [List.getElem_replicate]
      exact this
    · rw [if_pos (by omega), Int.toNat_natCast]
      by_cases hg : by'.getD i 0 = 0
      · rw [if_pos (decide_eq_true hg), wrap_i64 (by omega) (by omega), show (i : Int) + 1 = ((i + 1 : Nat) : Int) from rfl, show m + (4 - i) = m + (4 - (i + 1)) + 1 by omega]
        refine bursts_l7 K l p by' d h4 hz m (i + 1) (by omega) fun j hj' => ?_
        by_cases hji : j = i
        · rw [hji]; exact hg
        · exact hj j (by omega)
      · rw [if_neg (by rw [decide_eq_true_eq]; exact hg)]
        exact ⟨i, by omega, hg, rfl⟩
  termination_by m i => 4 - i

/-- How far the burst has come: d' differs from d behind p at most, in four bytes; from the first step on, at p. -/
structure Hit (d d' : List Int) (p : Nat) (done : Prop) : Prop where
  len : d'.length = d.length
  bytes : Bytes d'
  out : ∀ j, j < p ∨ p + 4 ≤ j → d'[j]? = d[j]?
  at' : done → d'[p]? ≠ d[p]?

theorem bursts_l11 (K : List (List Int) → Int → List Int → Option (Bool × Unit)) (l : List (List Int)) (by' d : List Int) (hby : Bytes by') (h4 : by'.length = 4) {p f : Nat} (hp : p < d.length) (hd : d.length ≤ 40000) (hf : f < 4) (hnz : by'.getD f 0 ≠ 0) :
    ∀ (m i : Nat) (d' : List Int), f ≤ i → i ≤ 4 → Hit d d' p (f < i) → (i = f → d' = d) →
    ∃ d2, Hit d d2 p True ∧ gridmarketlaw44_JournalBursts.l11 50000 K (m + (4 - i) + 1) l (p : Int) (f : Int) (i : Int) by' d' = K l (p : Int) d2
  | m, i, d', hfi, hi4, H, h0 => by
    have e : gridmarketlaw44_JournalBursts.l11 50000 K (m + (4 - i) + 1) l (p : Int) (f : Int) (i : Int) by' d' = gridmarketlaw44_JournalBursts.p11 50000 K (gridmarketlaw44_JournalBursts.l11 50000 K (m + (4 - i))) l (p : Int) (f : Int) (i : Int) by' d' := rfl
    rw [e]
    unfold gridmarketlaw44_JournalBursts.p11
    by_cases h : i = 4
    · subst h
      rw [if_neg (by simp)]
      exact ⟨d', ⟨H.len, H.bytes, H.out, fun _ => H.at' (by omega)⟩, rfl⟩
    · have hlen := H.len
      have w : IntKind.wrap .i64 (IntKind.wrap .i64 ((p : Int) + (i : Int)) - (f : Int)) = ((p + (i - f) : Nat) : Int) := by
        rw [wrap_i64 (n := (p : Int) + (i : Int)) (by omega) (by omega), wrap_i64 (by omega) (by omega)]
        omega
      rw [if_pos (decide_eq_true (by omega)), w]
      by_cases hq : p + (i - f) < d'.length
      · rw [if_pos (decide_eq_true (by omega)), if_pos (by omega), if_pos (by omega), if_pos (by omega), Int.toNat_natCast, Int.toNat_natCast]
        obtain ⟨v, hv, hv2, _⟩ := H.bytes.at hq
        obtain ⟨u, hu, hu2, _⟩ := hby.at (i := i) (by omega)
        rw [hv, hu, xor_u8 _ _ hv2 hu2, wrap_i64 (by omega) (by omega), show (i : Int) + 1 = ((i + 1 : Nat) : Int) from rfl, show m + (4 - i) = m + (4 - (i + 1)) + 1 by omega]
        have hx : v ^^^ u < 2 ^ 8 := Nat.xor_lt_two_pow (by omega) (by omega)
        refine bursts_l11 K l by' d hby h4 hp hd hf hnz m (i + 1) _ (by omega) (by omega) ⟨by rw [List.length_set]; exact H.len, ?_, ?_, ?_⟩ (fun h => by omega)
        · intro x hx'
          rcases List.mem_or_eq_of_mem_set hx' with h | h
          · exact H.bytes x h
          · rw [h]; omega
        · intro j hj
          rw [List.getElem?_set_ne (by omega)]
          exact H.out j hj
        · intro _
          by_cases hif : i = f
          · subst hif
            have hdd := h0 rfl
            subst hdd
            rw [Nat.sub_self, Nat.add_zero] at hv ⊢
            rw [List.getElem?_set_self hp, List.getElem?_eq_getElem hp]
            rw [List.getD_eq_getElem?_getD, List.getElem?_eq_getElem hp, Option.getD_some] at hv
            rw [hv]
            intro e
            have e : ((v ^^^ u : Nat) : Int) = (v : Int) := Option.some.inj e
            have e : v ^^^ u = v := by omega
            have : u = 0 := by
              have h1 : v ^^^ (v ^^^ u) = v ^^^ v := by rw [e]
              rwa [← Nat.xor_assoc, Nat.xor_self, Nat.zero_xor] at h1
            exact hnz (by rw [hu, this]; rfl)
          · rw [List.getElem?_set_ne (by omega)]
            exact H.at' (by omega)
      · rw [if_neg (by rw [decide_eq_true_eq]; omega)]
        exact ⟨d', ⟨H.len, H.bytes, H.out, fun _ => H.at' (by omega)⟩, rfl⟩
  termination_by m i => 4 - i

/-- The record in which the burst begins. -/
theorem bursts_l15 (K : List (List Int) → Int → Int → List Int → Option (Bool × Unit)) (l : List (List Int)) (hl : l.length ≤ 12) (hs : ∀ c ∈ l, c.length ≤ 200) (d' : List Int) {p : Nat} (hp : p < (dsk 0 l).length) : ∀ (m i : Nat), i ≤ l.length → (dsk 0 (l.take i)).length ≤ p →
    ∃ (n : Nat) (hn : n < l.length), (dsk 0 (l.take n)).length ≤ p ∧ p < (dsk 0 (l.take n)).length + (16 + l[n].length) ∧
      gridmarketlaw44_JournalBursts.l15 50000 K (m + (l.length - i) + 1) l (p : Int) (i : Int) ((dsk 0 (l.take i)).length : Int) d' = K l (n : Int) ((dsk 0 (l.take n)).length : Int) d'
  | m, i, hi, hle => by
    have e : gridmarketlaw44_JournalBursts.l15 50000 K (m + (l.length - i) + 1) l (p : Int) (i : Int) ((dsk 0 (l.take i)).length : Int) d' = gridmarketlaw44_JournalBursts.p15 50000 K (gridmarketlaw44_JournalBursts.l15 50000 K (m + (l.length - i))) l (p : Int) (i : Int) ((dsk 0 (l.take i)).length : Int) d' := rfl
    rw [e]
    unfold gridmarketlaw44_JournalBursts.p15
    by_cases h : i = l.length
    · subst h
      rw [List.take_length] at hle
      omega
    · have hi' : i < l.length := by omega
      have hdl := dsk_bound (l := l.take i) (k := 200) (fun c hc => hs c (List.mem_of_mem_take hc)) 0
      have hdl' : (dsk 0 (l.take i)).length ≤ 12 * 216 := Nat.le_trans hdl (Nat.mul_le_mul_right _ (by rw [List.length_take]; omega))
      have hsi := hs _ (List.getElem_mem hi')
      have hg : l.getD i [] = l[i] := by rw [List.getD_eq_getElem?_getD, List.getElem?_eq_getElem hi']; rfl
      rw [if_pos (decide_eq_true (by omega)), if_pos (by omega), Int.toNat_natCast, hg]
      have w : IntKind.wrap .i64 (IntKind.wrap .i64 (((dsk 0 (l.take i)).length : Int) + 16) + (l[i].length : Int)) = (((dsk 0 (l.take i)).length + (16 + l[i].length) : Nat) : Int) := by
        rw [wrap_i64 (n := ((dsk 0 (l.take i)).length : Int) + 16) (by omega) (by omega), wrap_i64 (by omega) (by omega)]
        omega
      rw [w]
      have hnext : (dsk 0 (l.take (i + 1))).length = (dsk 0 (l.take i)).length + (16 + l[i].length) := by
        rw [List.take_succ_eq_append_getElem hi', dsk_snoc, List.length_append, record_len]
      by_cases hc : (dsk 0 (l.take i)).length + (16 + l[i].length) ≤ p
      · rw [if_pos (decide_eq_true (by omega)), if_pos (by omega), wrap_i64 (by omega) (by omega), show (i : Int) + 1 = ((i + 1 : Nat) : Int) from rfl, show m + (l.length - i) = m + (l.length - (i + 1)) + 1 by omega, ← hnext]
        exact bursts_l15 K l hl hs d' hp m (i + 1) (by omega) (by omega)
      · rw [if_neg (by rw [decide_eq_true_eq]; omega)]
        exact ⟨i, hi', hle, by omega, rfl⟩
  termination_by m i => l.length - i

theorem law_bursts (l : List (List Int)) (p0 : Int) (by' : List Int) (hb : ∀ c ∈ l, Bytes c) (hby : Bytes by') (h4 : by'.length = 4) : gridmarketlaw44_JournalBursts.f 50000 l p0 by' = some (true, ()) := by
  unfold gridmarketlaw44_JournalBursts.f gridmarketlaw44_JournalBursts.q10000002
  rcases light_ok l with ⟨h, hl, hs⟩ | h
  case inr => rw [h]; rfl
  rw [h]
  simp only [Option.bind_some, Bool.not_true, Bool.false_eq_true, if_false]
  by_cases hz : by' = List.replicate 4 0
  · rw [if_pos (decide_eq_true hz)]
  rw [if_neg (by rw [decide_eq_true_eq]; exact hz)]
  unfold gridmarketlaw44_JournalBursts.q3
  have hdl := dsk_bound hs 0
  have hdl' : (dsk 0 l).length ≤ 12 * 216 := Nat.le_trans hdl (Nat.mul_le_mul_right _ hl)
  have hdb := dsk_bytes l 0 hb
  rw [disk_ok hb (fun c hc => by have := hs c hc; omega) hl]
  simp only [Option.bind_some]
  by_cases h0 : (dsk 0 l).length = 0
  · rw [if_pos (by rw [decide_eq_true_eq]; omega)]
  rw [if_neg (by rw [decide_eq_true_eq]; omega)]
  obtain ⟨f, hf, hnz, e7⟩ := bursts_l7 (fun y0 y1 y8 yo5 yr7 => (gridmarketmake_Mod.f 50000 y1 (yr7.length : Int)).bind fun t6 => (gridmarketlaw44_JournalBursts.l11 50000 (fun y0_7 y1_7 yr7_7 => gridmarketlaw44_JournalBursts.l15 50000 (fun y0_9 y10_9 y11_9 yr7_9 => (journal_Recover.f 50000 yr7_9).bind fun t11 => ((gridmarketlaw44_awake.f 50000).bind fun t12 => (if t12.1 then (if decide (t11.1 = y11_9) then (if (0 : Int) ≤ y10_9 ∧ y10_9 ≤ (y0_9.length : Int) then ((gridmarketref44_Same.f 50000 t11.2.1 (y0_9.take ((y10_9 : Int).toNat))).bind fun t13 => (some (t13.1, ()))) else none) else (some (false, ()))) else (some (false, ()))))) 50000 y0_7 y1_7 0 0 yr7_7) 50000 y0 t6.1 y8 y8 yo5 yr7)) l p0 by' (dsk 0 l) h4 hz 49995 0 (by omega) (fun j hj => by omega)
  refine e7.trans ?_
  obtain ⟨p, hm, hp0, hp1⟩ := mod_ok (N := 50000) p0 (a1 := ((dsk 0 l).length : Int)) (by omega) (by omega)
  obtain ⟨p, rfl⟩ := Int.eq_ofNat_of_zero_le hp0
  rw [hm]
  simp only [Option.bind_some]
  obtain ⟨d2, H, e11⟩ := bursts_l11 (fun y0_7 y1_7 yr7_7 => gridmarketlaw44_JournalBursts.l15 50000 (fun y0_9 y10_9 y11_9 yr7_9 => (journal_Recover.f 50000 yr7_9).bind fun t11 => ((gridmarketlaw44_awake.f 50000).bind fun t12 => (if t12.1 then (if decide (t11.1 = y11_9) then (if (0 : Int) ≤ y10_9 ∧ y10_9 ≤ (y0_9.length : Int) then ((gridmarketref44_Same.f 50000 t11.2.1 (y0_9.take ((y10_9 : Int).toNat))).bind fun t13 => (some (t13.1, ()))) else none) else (some (false, ()))) else (some (false, ()))))) 50000 y0_7 y1_7 0 0 yr7_7)
    l by' (dsk 0 l) hby h4 (p := p) (f := f) (by omega) (by omega) hf hnz (49999 - (4 - f)) f (dsk 0 l) (Nat.le_refl _) (by omega) ⟨rfl, hdb, fun _ _ => rfl, fun h => absurd h (by omega)⟩ (fun _ => rfl)
  rw [show 49999 - (4 - f) + (4 - f) + 1 = 50000 by omega] at e11
  refine e11.trans ?_
  obtain ⟨n, hn, hn1, hn2, e15⟩ := bursts_l15 (fun y0_9 y10_9 y11_9 yr7_9 => (journal_Recover.f 50000 yr7_9).bind fun t11 => ((gridmarketlaw44_awake.f 50000).bind fun t12 => (if t12.1 then (if decide (t11.1 = y11_9) then (if (0 : Int) ≤ y10_9 ∧ y10_9 ≤ (y0_9.length : Int) then ((gridmarketref44_Same.f 50000 t11.2.1 (y0_9.take ((y10_9 : Int).toNat))).bind fun t13 => (some (t13.1, ()))) else none) else (some (false, ()))) else (some (false, ())))))
    l hl hs d2 (p := p) (by omega) (49999 - l.length) 0 (by omega) (by simp [dsk])
  rw [show 49999 - l.length + (l.length - 0) + 1 = 50000 by omega] at e15
  refine e15.trans ?_
  -- what is found
  have hsplit : dsk 0 l = dsk 0 (l.take n) ++ (record (n : Int) l[n] ++ dsk (n + 1) (l.drop (n + 1))) := by
    have h1 : l = l.take n ++ (l[n] :: l.drop (n + 1)) := by rw [← List.drop_eq_getElem_cons hn, List.take_append_drop]
    have h2 := dsk_append (l.take n) (l[n] :: l.drop (n + 1)) 0
    rw [← h1] at h2
    rw [h2, List.length_take, Nat.min_eq_left (by omega), Nat.zero_add]
    rfl
  have hdrop : (dsk 0 l).drop (dsk 0 (l.take n)).length = record (n : Int) l[n] ++ dsk (n + 1) (l.drop (n + 1)) := by
    conv => lhs; rw [hsplit]
    rw [List.drop_left]
  have htake : d2.take (dsk 0 (l.take n)).length = dsk 0 (l.take n) := by
    have h1 : (dsk 0 l).take (dsk 0 (l.take n)).length = dsk 0 (l.take n) := by
      conv => lhs; rw [hsplit]
      rw [List.take_left]
    refine Eq.trans ?_ h1
    refine List.ext_getElem? fun j => ?_
    rw [List.getElem?_take, List.getElem?_take]
    split
    · exact H.out j (.inl (by omega))
    · rfl
  have hd2 : d2 = dsk 0 (l.take n) ++ d2.drop (dsk 0 (l.take n)).length := by
    conv => lhs; rw [← List.take_append_drop (dsk 0 (l.take n)).length d2]
    rw [htake]
  have hlen := H.len
  have hmem := List.getElem_mem hn
  have hsn := hs _ hmem
  have hno : ∀ c, ¬ Begins (d2.drop (dsk 0 (l.take n)).length) (n : Int) c := by
    refine burst_begins (c0 := l[n]) (rest0 := dsk (n + 1) (l.drop (n + 1))) (hb _ hmem) (by omega) (H.bytes.mono fun x hx => List.mem_of_mem_drop hx) ?_ (r := p - (dsk 0 (l.take n)).length) (by omega) (fun j hj => ?_) ?_
    · rw [← hdrop, List.length_drop, List.length_drop, hlen]
    · rw [← hdrop, List.getElem?_drop, List.getElem?_drop]
      exact H.out _ (by omega)
    · rw [← hdrop, List.getElem?_drop, List.getElem?_drop, show (dsk 0 (l.take n)).length + (p - (dsk 0 (l.take n)).length) = p by omega]
      exact H.at' trivial
  have hln : (l.take n).length = n := by rw [List.length_take]; omega
  have hr := recover_spec (l := l.take n) hd2 H.bytes (by omega) (by omega) (.inr (by rw [hln]; exact hno))
  rw [hr, awake_N]
  simp only [Option.bind_some, if_true]
  rw [if_pos (by simp), if_pos (by omega), Int.toNat_natCast, same_ok (by omega)]
  rfl
theorem plainJournalBursts (z : slotsX Unit (gridmarketlaw44_JournalBursts.F 0).din.slots) (h : argsGood (gridmarketlaw44_JournalBursts.F 0).din.slots z) : ∃ N, (gridmarketlaw44_JournalBursts.F N).run z = some (true, ()) :=
  ⟨50000, law_bursts z.1 z.2.1 z.2.2.1 (bytess_of h.1.2.2) (bytes_of h.2.2.1.2) h.2.2.1.1⟩
end Go.Proofs.Ytbcbblpkhgmahaa.Abs.T
end
