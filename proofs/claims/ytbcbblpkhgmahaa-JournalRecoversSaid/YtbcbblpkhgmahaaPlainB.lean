import Derived.Test.YtbcbblpkhgmahaaPlainA
set_option linter.unusedVariables false
set_option linter.unusedSimpArgs false
section
namespace Go.Proofs.Ytbcbblpkhgmahaa.Abs.T
open Go.Proofs.Ytbcbblpkhgmahaa.Abs.Crc Go.Proofs.Ytbcbblpkhgmahaa.Abs.Ints

theorem begins_unique {b : List Int} {n : Int} {c c' : List Int} (h : Begins b n c) (h' : Begins b n c') : c = c' := by
  obtain ⟨⟨r, e⟩, hl⟩ := h
  obtain ⟨⟨r', e'⟩, hl'⟩ := h'
  rw [rec_eq] at e e'
  rw [e] at e'
  obtain ⟨_, e'⟩ := four_inj (wrap_u32_range n) (wrap_u32_range n) e'
  obtain ⟨i, e'⟩ := four_inj (wrap_u32_range _) (wrap_u32_range _) e'
  rw [wrap_u32_id (by omega) (by omega), wrap_u32_id (by omega) (by omega)] at i
  obtain ⟨_, e'⟩ := four_inj (crcI_lt (head8_bytes _ _)) (crcI_lt (head8_bytes _ _)) e'
  exact (List.append_inj e' (by omega)).1

/-- The records of l, from number i on. -/
def dsk : Nat → List (List Int) → List Int
  | _, [] => []
  | i, c :: r => record (i : Int) c ++ dsk (i + 1) r
theorem dsk_append : ∀ (l l' : List (List Int)) (i : Nat), dsk i (l ++ l') = dsk i l ++ dsk (i + l.length) l'
  | [], l', i => by simp [dsk]
  | c :: r, l', i => by
    show record i c ++ dsk (i + 1) (r ++ l') = record i c ++ dsk (i + 1) r ++ _
    rw [dsk_append r l' (i + 1), List.append_assoc, List.length_cons]
    congr 3
    omega
theorem dsk_len : ∀ (l : List (List Int)) (i : Nat), (dsk i l).length = (l.map fun c => 16 + c.length).sum
  | [], _ => rfl
  | c :: r, i => by
    show (record i c ++ dsk (i + 1) r).length = _
    rw [List.length_append, record_len, dsk_len r (i + 1), List.map_cons, List.sum_cons]
theorem dsk_bytes : ∀ (l : List (List Int)) (i : Nat), (∀ c ∈ l, Bytes c) → Bytes (dsk i l)
  | [], _, _ => fun x hx => by cases hx
  | c :: r, i, h => (record_bytes _ (h c (by simp))).append (dsk_bytes r (i + 1) fun c hc => h c (by simp [hc]))

theorem recover_loop (K : Int → List (List Int) → Option (Int × List (List Int) × Unit)) (tail : List Int) : ∀ (l : List (List Int)) (m : Nat) (pre : List Int) (i : Nat) (acc : List (List Int)), i + l.length ≤ 1024 → acc.length = i →
    Bytes (pre ++ (dsk i l ++ tail)) → (pre ++ (dsk i l ++ tail)).length ≤ 40000 →
    journal_Recover.l2 50000 K (m + l.length) (pre ++ (dsk i l ++ tail)) (pre.length : Int) (i : Int) acc = journal_Recover.l2 50000 K m (pre ++ (dsk i l ++ tail)) ((pre.length + (dsk i l).length : Nat) : Int) ((i + l.length : Nat) : Int) (acc ++ l)
  | [], m, pre, i, acc, _, _, _, _ => by simp [dsk]
  | c :: r, m, pre, i, acc, hi, ha, hb, hl => by
    have hdrop : (pre ++ (dsk i (c :: r) ++ tail)).drop pre.length = record i c ++ (dsk (i + 1) r ++ tail) := by
      rw [List.drop_left]
      show record i c ++ dsk (i + 1) r ++ tail = _
      rw [List.append_assoc]
    have hlen : (pre ++ (dsk i (c :: r) ++ tail)).length = pre.length + ((16 + c.length) + ((dsk (i + 1) r).length + tail.length)) := by
      show (pre ++ (record i c ++ dsk (i + 1) r ++ tail)).length = _
      simp only [List.length_append, record_len]
      omega
    have hb' : Bytes (record i c ++ (dsk (i + 1) r ++ tail)) := by rw [← hdrop]; exact hb.mono fun x hx => List.mem_of_mem_drop hx
    have hbeg : Begins (record i c ++ (dsk (i + 1) r ++ tail)) i c := ⟨⟨_, rfl⟩, by omega⟩
    have hf : journal_first.f 50000 (record i c ++ (dsk (i + 1) r ++ tail)) i = some (c, ((16 + c.length : Nat) : Int), true, ()) := by
      rcases first_spec hb' (by have := congrArg List.length hdrop; rw [List.length_drop] at this; omega) (i : Int) with ⟨c', h1, h2⟩ | ⟨h1, _⟩
      · have e := begins_unique h1 hbeg
        subst e
        exact h2
      · exact absurd hbeg (h1 c)
    rw [show m + (c :: r).length = (m + r.length) + 1 by simp; omega]
    show journal_Recover.p2 50000 K (journal_Recover.l2 50000 K (m + r.length)) (pre ++ (dsk i (c :: r) ++ tail)) (pre.length : Int) (i : Int) acc = _
    have hi1 : i < 1024 := by simp at hi; omega
    unfold journal_Recover.p2
    rw [if_pos (decide_eq_true (show (i : Int) < 1024 by omega)), if_pos (by omega), Int.toNat_natCast, hdrop, hf]
    simp only [Option.bind_some, Bool.not_true, Bool.false_eq_true, if_false, List.nil_append, List.length_nil, List.length_singleton]
    rw [if_pos (by omega), if_pos (by omega)]
    rw [wrap_i64 (by omega) (by omega), wrap_i64 (by omega) (by omega)]
    have e1 : pre ++ (dsk i (c :: r) ++ tail) = (pre ++ record i c) ++ (dsk (i + 1) r ++ tail) := by
      show pre ++ (record i c ++ dsk (i + 1) r ++ tail) = _
      simp only [List.append_assoc]
    have e2 : (pre.length : Int) + ((16 + c.length : Nat) : Int) = ((pre ++ record i c).length : Int) := by rw [List.length_append, record_len]; omega
    rw [e1] at hb hl ⊢
    rw [e2, show (i : Int) + 1 = ((i + 1 : Nat) : Int) from rfl, recover_loop K tail r m (pre ++ record i c) (i + 1) (acc ++ [c]) (by simp at hi; omega) (by simp [ha]) hb hl]
    rw [List.append_assoc acc, List.singleton_append]
    congr 1
    · show (((pre ++ record i c).length + (dsk (i + 1) r).length : Nat) : Int) = ((pre.length + (record i c ++ dsk (i + 1) r).length : Nat) : Int)
      simp only [List.length_append, record_len]
      omega
    · simp; omega

theorem recover_spec {l : List (List Int)} {tail disk : List Int} (hd : disk = dsk 0 l ++ tail) (hb : Bytes disk) (hl : disk.length ≤ 40000) (hn : l.length ≤ 1024) (hs : l.length = 1024 ∨ ∀ c, ¬ Begins tail (l.length : Int) c) :
    journal_Recover.f 50000 disk = some (((dsk 0 l).length : Int), l, ()) := by
  subst hd
  have hl' := hl
  rw [List.length_append] at hl'
  unfold journal_Recover.f
  have := recover_loop (fun y3 yr2 => some (y3, yr2, ())) tail l (50000 - l.length) [] 0 [] (by omega) rfl hb hl
  rw [show (50000 - l.length) + l.length = 50000 by omega] at this
  simp only [List.nil_append, List.length_nil, Nat.zero_add] at this
  refine this.trans ?_
  rw [show 50000 - l.length = (49999 - l.length) + 1 by omega]
  show journal_Recover.p2 50000 _ (journal_Recover.l2 50000 _ (49999 - l.length)) _ _ _ _ = _
  unfold journal_Recover.p2
  by_cases h : l.length = 1024
  · rw [if_neg (by rw [h]; decide)]
  · rw [if_pos (decide_eq_true (show (l.length : Int) < 1024 by omega)), if_pos (by rw [List.length_append]; omega), Int.toNat_natCast, List.drop_left]
    have hs := hs.resolve_left h
    rcases first_spec (b := tail) (hb.mono fun x hx => List.mem_append_right _ hx) (by omega) (l.length : Int) with ⟨c, h1, _⟩ | ⟨_, h2⟩
    · exact absurd h1 (hs c)
    · rw [h2]
      rfl

theorem disk_loop (K : List Int → Option (List Int × Unit)) (l : List (List Int)) (hb : ∀ c ∈ l, Bytes c) (hc : ∀ c ∈ l, c.length ≤ 40000) (hl : l.length ≤ 12) : ∀ (m i : Nat) (acc : List Int), i ≤ l.length → acc.length ≤ 41000 * i →
    gridmarketlaw44_disk.l3 50000 K (m + (l.length - i) + 1) l (i : Int) acc = K (acc ++ dsk i (l.drop i))
  | m, i, acc, hi, ha => by
    show gridmarketlaw44_disk.p3 50000 K (gridmarketlaw44_disk.l3 50000 K (m + (l.length - i))) l (i : Int) acc = _
    unfold gridmarketlaw44_disk.p3
    by_cases h : i = l.length
    · subst h
      rw [if_neg (by simp)]
      simp [dsk]
    · have hi' : i < l.length := by omega
      rw [if_pos (decide_eq_true (by omega)), if_pos (by omega)]
      have hg : l.getD i [] = l[i] := by rw [List.getD_eq_getElem?_getD, List.getElem?_eq_getElem hi']; rfl
      have hm : l[i] ∈ l := List.getElem_mem hi'
      have h40 := hc _ hm
      rw [Int.toNat_natCast, hg, rec_ok (hb _ hm) h40]
      simp only [Option.bind_some]
      rw [if_pos (by rw [record_len]; omega), wrap_i64 (by omega) (by omega), show (i : Int) + 1 = ((i + 1 : Nat) : Int) from rfl, show m + (l.length - i) = m + (l.length - (i + 1)) + 1 by omega]
      rw [disk_loop K l hb hc hl m (i + 1) _ (by omega) (by rw [List.length_append, record_len]; omega)]
      rw [List.drop_eq_getElem_cons hi', List.append_assoc]
      rfl
  termination_by m i => l.length - i
theorem disk_ok {l : List (List Int)} (hb : ∀ c ∈ l, Bytes c) (hc : ∀ c ∈ l, c.length ≤ 40000) (hl : l.length ≤ 12) : gridmarketlaw44_disk.f 50000 l = some (dsk 0 l, ()) := by
  unfold gridmarketlaw44_disk.f
  have := disk_loop (fun yr3 => some (yr3, ())) l hb hc hl (49999 - l.length) 0 [] (by omega) (by simp)
  rw [show 49999 - l.length + (l.length - 0) + 1 = 50000 by omega] at this
  refine this.trans ?_
  simp

theorem light_loop (l : List (List Int)) (hl : l.length ≤ 12) : ∀ (m i : Nat), i ≤ l.length → (∀ c ∈ l.take i, c.length ≤ 200) →
    (gridmarketlaw44_light.l4 50000 (fun _ => some (true, ())) (m + (l.length - i) + 1) l (i : Int) = some (true, ()) ∧ ∀ c ∈ l, c.length ≤ 200) ∨ gridmarketlaw44_light.l4 50000 (fun _ => some (true, ())) (m + (l.length - i) + 1) l (i : Int) = some (false, ())
  | m, i, hi, ht => by
    have e : gridmarketlaw44_light.l4 50000 (fun _ => some (true, ())) (m + (l.length - i) + 1) l (i : Int) = gridmarketlaw44_light.p4 50000 (fun _ => some (true, ())) (gridmarketlaw44_light.l4 50000 (fun _ => some (true, ())) (m + (l.length - i))) l (i : Int) := rfl
    rw [e]
    unfold gridmarketlaw44_light.p4
    by_cases h : i = l.length
    · subst h
      rw [if_neg (by simp)]
      exact .inl ⟨rfl, by simpa using ht⟩
    · have hi' : i < l.length := by omega
      rw [if_pos (decide_eq_true (by omega)), if_pos (by omega)]
      have hg : l.getD i [] = l[i] := by rw [List.getD_eq_getElem?_getD, List.getElem?_eq_getElem hi']; rfl
      rw [Int.toNat_natCast, hg]
      by_cases hc : 200 < (l[i].length : Int)
      · rw [if_pos (decide_eq_true hc)]
        exact .inr rfl
      · rw [if_neg (by rw [decide_eq_true_eq]; exact hc), wrap_i64 (by omega) (by omega), show (i : Int) + 1 = ((i + 1 : Nat) : Int) from rfl, show m + (l.length - i) = m + (l.length - (i + 1)) + 1 by omega]
        refine light_loop l hl m (i + 1) (by omega) fun c hm => ?_
        rw [List.take_succ_eq_append_getElem hi'] at hm
        rcases List.mem_append.1 hm with hm | hm
        · exact ht c hm
        · rw [List.mem_singleton.1 hm]
          omega
  termination_by m i => l.length - i
theorem light_ok (l : List (List Int)) : (gridmarketlaw44_light.f 50000 l = some (true, ()) ∧ l.length ≤ 12 ∧ ∀ c ∈ l, c.length ≤ 200) ∨ gridmarketlaw44_light.f 50000 l = some (false, ()) := by
  unfold gridmarketlaw44_light.f
  by_cases h : 12 < (l.length : Int)
  · rw [if_pos (decide_eq_true h)]
    exact .inr rfl
  · rw [if_neg (by rw [decide_eq_true_eq]; exact h)]
    have := light_loop l (by omega) (49999 - l.length) 0 (by omega) (by simp)
    rw [show 49999 - l.length + (l.length - 0) + 1 = 50000 by omega] at this
    rcases this with ⟨h1, h2⟩ | h1
    · exact .inl ⟨h1, by omega, h2⟩
    · exact .inr h1

theorem same_loop (l : List (List Int)) (hl : l.length ≤ 40000) : ∀ (m i : Nat), i ≤ l.length → gridmarketref44_Same.l4 50000 (fun _ => some (true, ())) (m + (l.length - i) + 1) l l (i : Int) = some (true, ())
  | m, i, hi => by
    show gridmarketref44_Same.p4 50000 (fun _ => some (true, ())) (gridmarketref44_Same.l4 50000 (fun _ => some (true, ())) (m + (l.length - i))) l l (i : Int) = _
    unfold gridmarketref44_Same.p4
    by_cases h : i = l.length
    · subst h
      rw [if_neg (by simp)]
    · rw [if_pos (decide_eq_true (by omega)), if_pos (by omega), if_pos (by omega), if_neg (by simp), wrap_i64 (by omega) (by omega), show (i : Int) + 1 = ((i + 1 : Nat) : Int) from rfl, show m + (l.length - i) = m + (l.length - (i + 1)) + 1 by omega]
      exact same_loop l hl m (i + 1) (by omega)
  termination_by m i => l.length - i
theorem same_ok {l : List (List Int)} (hl : l.length ≤ 40000) : gridmarketref44_Same.f 50000 l l = some (true, ()) := by
  unfold gridmarketref44_Same.f
  rw [if_neg (by simp)]
  have := same_loop l hl (49999 - l.length) 0 (by omega)
  rw [show 49999 - l.length + (l.length - 0) + 1 = 50000 by omega] at this
  exact this
end Go.Proofs.Ytbcbblpkhgmahaa.Abs.T
end

section
namespace Go.Proofs.Ytbcbblpkhgmahaa.Abs.T
open Go.Proofs.Ytbcbblpkhgmahaa.Abs.Crc Go.Proofs.Ytbcbblpkhgmahaa.Abs.Ints

theorem wrap_u64 (n : Int) : IntKind.wrap .u64 n = n % 18446744073709551616 := by simp [IntKind.wrap, IntKind.bits, IntKind.signed]
theorem mod_ok {N : Nat} (a0 : Int) {a1 : Int} (h0 : 0 < a1) (h1 : a1 < 9223372036854775808) : ∃ t, gridmarketmake_Mod.f N a0 a1 = some (t, ()) ∧ 0 ≤ t ∧ t < a1 := by
  have e1 : IntKind.wrap .u64 a1 = a1 := by rw [wrap_u64]; omega
  have e0 : 0 ≤ IntKind.wrap .u64 a0 := by rw [wrap_u64]; omega
  have h2 := Int.tmod_nonneg a1 e0
  have h3 := Int.tmod_lt_of_pos (IntKind.wrap .u64 a0) h0
  refine ⟨Int.tmod (IntKind.wrap .u64 a0) a1, ?_, h2, h3⟩
  unfold gridmarketmake_Mod.f
  rw [e1, if_neg (by omega), wrap_i64 (by omega) (by omega)]

theorem enc_ok {x0 : Int} {c : List Int} (h0 : 0 ≤ x0) (h1 : x0 < 1024) (hc : Bytes c) (hl : c.length ≤ 40000) : journal_Encode.f 50000 x0 c = some (0, record x0 c, ()) := by
  unfold journal_Encode.f journal_Encode.q10000002
  rw [if_neg (by rw [decide_eq_true_eq]; omega), decide_eq_false (by omega)]
  exact enc_q3 hc hl

theorem append_ok {l : List (List Int)} {tail disk c : List Int} (hd : disk = dsk 0 l ++ tail) (hb : Bytes disk) (hl : disk.length ≤ 40000) (hn : l.length < 1024) (hs : ∀ c, ¬ Begins tail (l.length : Int) c) (hc : Bytes c) (hcl : c.length ≤ 40000) :
    journal_Append.f 50000 disk c = some (0, dsk 0 l ++ record (l.length : Int) c, ()) := by
  have hr := recover_spec hd hb hl (by omega) (.inr hs)
  have hlen : disk.length = (dsk 0 l).length + tail.length := by rw [hd, List.length_append]
  have hrl := record_len (l.length : Int) c
  unfold journal_Append.f
  rw [if_neg (by rw [decide_eq_true_eq]; omega), hr]
  simp only [Option.bind_some]
  rw [if_neg (by rw [decide_eq_true_eq]; omega), enc_ok (by omega) (by omega) hc hcl]
  simp only [Option.bind_some]
  rw [if_neg (by simp), wrap_i64 (by omega) (by omega), if_neg (by rw [decide_eq_true_eq]; omega), if_pos (by omega), Int.toNat_natCast]
  have ht : disk.take (dsk 0 l).length = dsk 0 l := by rw [hd, List.take_left]
  rw [ht]
  simp only [List.nil_append, List.length_nil]
  rw [if_pos (by omega), if_pos (by omega)]

theorem not_begins_nil (n : Int) (c : List Int) : ¬ Begins [] n c := by
  rintro ⟨⟨r, e⟩, _⟩
  have := congrArg List.length e
  rw [List.length_append, record_len, List.length_nil] at this
  omega
theorem not_begins_torn {n : Int} {c c' : List Int} {t : Nat} (ht : t < 16 + c.length) (hc : c.length ≤ 2097152) : ¬ Begins ((record n c).take t) n c' := by
  rintro ⟨⟨r, e⟩, hl⟩
  have h1 : Begins (record n c) n c' := ⟨⟨r ++ (record n c).drop t, by rw [← List.append_assoc, ← e, List.take_append_drop]⟩, hl⟩
  have h2 : Begins (record n c) n c := ⟨⟨[], by simp⟩, hc⟩
  have h3 := begins_unique h1 h2
  subst h3
  have := congrArg List.length e
  rw [List.length_append, List.length_take, record_len] at this
  omega

theorem dsk_snoc (l : List (List Int)) (c : List Int) : dsk 0 (l ++ [c]) = dsk 0 l ++ record (l.length : Int) c := by
  rw [dsk_append]
  show dsk 0 l ++ (record ((0 + l.length : Nat) : Int) c ++ []) = _
  rw [List.append_nil, Nat.zero_add]
theorem dsk_bound {l : List (List Int)} {k : Nat} (h : ∀ c ∈ l, c.length ≤ k) (i : Nat) : (dsk i l).length ≤ l.length * (16 + k) := by
  rw [dsk_len]
  induction l with
  | nil => simp
  | cons c r ih =>
    have := h c (by simp)
    have := ih (fun c hc => h c (by simp [hc]))
    rw [List.map_cons, List.sum_cons, List.length_cons, Nat.add_mul]
    omega

theorem tears_q7 {l : List (List Int)} {c : List Int} (at' : Int) (hb : ∀ c ∈ l, Bytes c) (hc : Bytes c) (hl : l.length ≤ 12) (hs : ∀ c ∈ l, c.length ≤ 200) (hcl : c.length ≤ 200) :
    gridmarketlaw44_JournalTears.q7 50000 l c at' (dsk 0 l) (dsk 0 l ++ record (l.length : Int) c) = some (true, ()) := by
  have hdl := dsk_bound hs 0
  have hdl' : (dsk 0 l).length ≤ 12 * 216 := Nat.le_trans hdl (Nat.mul_le_mul_right _ hl)
  have hrl := record_len (l.length : Int) c
  have hnl : (dsk 0 l ++ record (l.length : Int) c).length = (dsk 0 l).length + (16 + c.length) := by rw [List.length_append, hrl]
  have hnb : Bytes (dsk 0 l ++ record (l.length : Int) c) := (dsk_bytes l 0 hb).append (record_bytes _ hc)
  obtain ⟨t, hm, ht0, ht1⟩ := mod_ok (N := 50000) at' (a1 := (16 + c.length : Nat) + 1) (by omega) (by omega)
  obtain ⟨t, rfl⟩ := Int.eq_ofNat_of_zero_le ht0
  unfold gridmarketlaw44_JournalTears.q7
  have w1 : IntKind.wrap .i64 (IntKind.wrap .i64 (((dsk 0 l ++ record (l.length : Int) c).length : Int) - ((dsk 0 l).length : Int)) + 1) = ((16 + c.length : Nat) : Int) + 1 := by
    rw [wrap_i64 (n := ((dsk 0 l ++ record (l.length : Int) c).length : Int) - ((dsk 0 l).length : Int)) (by omega) (by omega), wrap_i64 (by omega) (by omega)]
    omega
  have w2 : IntKind.wrap .i64 (((dsk 0 l).length : Int) + (t : Int)) = (((dsk 0 l).length + t : Nat) : Int) := by rw [wrap_i64 (by omega) (by omega)]; rfl
  have w3 : IntKind.wrap .i64 ((l.length : Int) + 1) = ((l.length + 1 : Nat) : Int) := by rw [wrap_i64 (by omega) (by omega)]; rfl
  rw [w1, hm]
  simp only [Option.bind_some, w2, w3]
  rw [if_pos (by omega), Int.toNat_natCast, List.drop_zero]
  by_cases hk : t = 16 + c.length
  · have htk : (dsk 0 l ++ record (l.length : Int) c).take ((dsk 0 l).length + t) = dsk 0 (l ++ [c]) := by
      rw [List.take_of_length_le (by omega), dsk_snoc]
    have hd : dsk 0 (l ++ [c]) = dsk 0 (l ++ [c]) ++ [] := by simp
    have hb2 : Bytes (dsk 0 (l ++ [c])) := by rw [dsk_snoc]; exact hnb
    have hr := recover_spec hd hb2 (by rw [dsk_snoc]; omega) (by simp; omega) (.inr (not_begins_nil _))
    rw [htk, hr]
    have hl2 : (dsk 0 (l ++ [c])).length = (dsk 0 l).length + t := by rw [dsk_snoc]; omega
    simp only [Option.bind_some]
    rw [if_pos (by rw [decide_eq_true_eq]; omega), if_pos (by rw [decide_eq_true_eq]; omega), if_pos (by rw [decide_eq_true_eq]; simp), if_pos (by simp; omega), Int.toNat_natCast]
    have hg : (l ++ [c]).getD l.length [] = c := by simp [List.getD_eq_getElem?_getD]
    rw [hg, if_pos (by simp), if_pos (by simp only [List.length_append, List.length_singleton]; omega), List.drop_zero, List.take_left, same_ok (by omega)]
    rfl
  · have htk : (dsk 0 l ++ record (l.length : Int) c).take ((dsk 0 l).length + t) = dsk 0 l ++ (record (l.length : Int) c).take t := by
      rw [List.take_append, List.take_of_length_le (by omega), Nat.add_sub_cancel_left]
    have hr := recover_spec htk (hnb.mono fun x hx => List.mem_of_mem_take hx) (by rw [List.length_take]; omega) (by omega) (.inr fun c' => not_begins_torn (by omega) (by omega))
    rw [hr]
    simp only [Option.bind_some]
    rw [if_neg (by rw [decide_eq_true_eq]; omega), if_pos (by simp), same_ok (by omega)]
    rfl

theorem law_tears (l : List (List Int)) (c : List Int) (at' : Int) (hb : ∀ c ∈ l, Bytes c) (hc : Bytes c) : gridmarketlaw44_JournalTears.f 50000 l c at' = some (true, ()) := by
  unfold gridmarketlaw44_JournalTears.f gridmarketlaw44_JournalTears.q10000002
  rcases light_ok l with ⟨h, hl, hs⟩ | h
  · rw [h]
    simp only [Option.bind_some, Bool.not_true, Bool.false_eq_true, if_false]
    by_cases hcl : 200 < (c.length : Int)
    · rw [if_pos (decide_eq_true hcl)]
    · rw [if_neg (by rw [decide_eq_true_eq]; exact hcl)]
      unfold gridmarketlaw44_JournalTears.q3
      have hdl := dsk_bound hs 0
      have hdl' : (dsk 0 l).length ≤ 12 * 216 := Nat.le_trans hdl (Nat.mul_le_mul_right _ hl)
      rw [disk_ok hb (fun c hc => by have := hs c hc; omega) hl]
      simp only [Option.bind_some]
      rw [append_ok (l := l) (tail := []) (by simp) (dsk_bytes l 0 hb) (by omega) (by omega) (not_begins_nil _) hc (by omega), awake_N]
      simp only [Option.bind_some, Bool.not_true, Bool.false_eq_true, if_false, decide_true]
      unfold gridmarketlaw44_JournalTears.q10000006
      have hrl := record_len (l.length : Int) c
      rw [if_neg (by rw [decide_eq_true_eq, List.length_append]; omega)]
      exact tears_q7 at' hb hc hl hs (by omega)
  · rw [h]
    rfl

theorem bytess_of {l : List (List Int)} (h : ∀ x ∈ l, good (.sl (.int .u8)) x) : ∀ c ∈ l, Bytes c := fun c hc => bytes_of (h c hc).2.2
theorem plainJournalTears (z : slotsX Unit (gridmarketlaw44_JournalTears.F 0).din.slots) (h : argsGood (gridmarketlaw44_JournalTears.F 0).din.slots z) : ∃ N, (gridmarketlaw44_JournalTears.F N).run z = some (true, ()) :=
  ⟨50000, law_tears z.1 z.2.1 z.2.2.1 (bytess_of h.1.2.2) (bytes_of h.2.1.2.2)⟩
end Go.Proofs.Ytbcbblpkhgmahaa.Abs.T
end

section
namespace Go.Proofs.Ytbcbblpkhgmahaa.Abs.T
open Go.Proofs.Ytbcbblpkhgmahaa.Abs.Crc Go.Proofs.Ytbcbblpkhgmahaa.Abs.Ints

theorem full_loop (K : List Int → Int → List Int → Option (Bool × Unit)) {c : List Int} (hc : Bytes c) (hcl : c.length ≤ 4) {n : Nat} (hn : n ≤ 1024) : ∀ (m i : Nat), i ≤ n →
    gridmarketlaw44_JournalFull.l6 50000 K (m + (n - i) + 1) c (n : Int) (i : Int) (dsk 0 (List.replicate i c)) = K c (n : Int) (dsk 0 (List.replicate n c))
  | m, i, hi => by
    show gridmarketlaw44_JournalFull.p6 50000 K (gridmarketlaw44_JournalFull.l6 50000 K (m + (n - i))) c (n : Int) (i : Int) (dsk 0 (List.replicate i c)) = _
    unfold gridmarketlaw44_JournalFull.p6
    by_cases h : i = n
    · subst h
      rw [if_neg (by simp)]
    · have hb : (dsk 0 (List.replicate i c)).length ≤ i * (16 + 4) := by
        have := dsk_bound (l := List.replicate i c) (k := 4) (fun x hx => by rw [List.eq_of_mem_replicate hx]; exact hcl) 0
        simpa using this
      rw [if_pos (decide_eq_true (by omega)), rec_ok hc (by omega)]
      simp only [Option.bind_some]
      rw [if_pos (by rw [record_len]; omega), wrap_i64 (by omega) (by omega), show (i : Int) + 1 = ((i + 1 : Nat) : Int) from rfl, show m + (n - i) = m + (n - (i + 1)) + 1 by omega]
      have e : dsk 0 (List.replicate i c) ++ record (i : Int) c = dsk 0 (List.replicate (i + 1) c) := by
        have := dsk_snoc (List.replicate i c) c
        rw [List.length_replicate] at this
        rw [List.replicate_succ', this]
      rw [e]
      exact full_loop K hc hcl hn m (i + 1) (by omega)
  termination_by m i => n - i

theorem law_full (c : List Int) (less : Int) (hc : Bytes c) : gridmarketlaw44_JournalFull.f 50000 c less = some (true, ()) := by
  unfold gridmarketlaw44_JournalFull.f
  by_cases h4 : 4 < (c.length : Int)
  · rw [if_pos (decide_eq_true h4)]
  rw [if_neg (by rw [decide_eq_true_eq]; exact h4)]
  obtain ⟨t, hm, ht0, ht1⟩ := mod_ok (N := 50000) less (a1 := 3) (by omega) (by omega)
  obtain ⟨t, rfl⟩ := Int.eq_ofNat_of_zero_le ht0
  obtain ⟨n, hn⟩ : ∃ n : Nat, n = 1024 - t := ⟨_, rfl⟩
  have hw : IntKind.wrap .i64 (1024 - (t : Int)) = (n : Int) := by rw [wrap_i64 (by omega) (by omega)]; omega
  rw [hm]
  simp only [Option.bind_some, hw]
  have hcl : c.length ≤ 4 := by omega
  have hl := fun K => full_loop K hc hcl (n := n) (by omega) (49999 - n) 0 (by omega)
  rw [show 49999 - n + (n - 0) + 1 = 50000 by omega] at hl
  refine (hl _).trans ?_
  have hlr : (List.replicate n c).length = n := List.length_replicate
  have hbs : Bytes (dsk 0 (List.replicate n c)) := dsk_bytes _ 0 fun x hx => by rw [List.eq_of_mem_replicate hx]; exact hc
  have hdl : (dsk 0 (List.replicate n c)).length ≤ n * (16 + 4) := by
    have := dsk_bound (l := List.replicate n c) (k := 4) (fun x hx => by rw [List.eq_of_mem_replicate hx]; exact hcl) 0
    simpa using this
  have hdl' : (dsk 0 (List.replicate n c)).length ≤ 20480 := Nat.le_trans hdl (by omega)
  have hr : journal_Recover.f 50000 (dsk 0 (List.replicate n c)) = some (((dsk 0 (List.replicate n c)).length : Int), List.replicate n c, ()) :=
    recover_spec (l := List.replicate n c) (tail := []) (by simp) hbs (by omega) (by omega) (.inr (not_begins_nil _))
  by_cases hf : n = 1024
  · have ha : journal_Append.f 50000 (dsk 0 (List.replicate n c)) c = some (19, [], ()) := by
      unfold journal_Append.f
      rw [if_neg (by rw [decide_eq_true_eq]; omega), hr]
      simp only [Option.bind_some]
      rw [if_pos (by rw [decide_eq_true_eq]; omega)]
    rw [ha, hr, awake_N]
    simp only [Option.bind_some, Bool.not_true, Bool.false_eq_true, if_false]
    rw [if_neg (by rw [hlr]; simp)]
    unfold gridmarketlaw44_JournalFull.q10000012
    rw [if_neg (by simp)]
    show gridmarketlaw44_JournalFull.q13 50000 c (n : Int) _ _ _ = _
    unfold gridmarketlaw44_JournalFull.q13
    rw [if_pos (by rw [decide_eq_true_eq]; omega), if_pos (by simp)]
    simp
  · have ha := append_ok (l := List.replicate n c) (tail := []) (c := c) (disk := dsk 0 (List.replicate n c)) (by simp) hbs (by omega) (by omega) (not_begins_nil _) hc (by omega)
    rw [ha, hr, awake_N]
    simp only [Option.bind_some, Bool.not_true, Bool.false_eq_true, if_false]
    rw [if_neg (by rw [hlr]; simp)]
    unfold gridmarketlaw44_JournalFull.q10000012
    rw [if_neg (by simp)]
    show gridmarketlaw44_JournalFull.q13 50000 c (n : Int) _ _ _ = _
    unfold gridmarketlaw44_JournalFull.q13
    rw [if_neg (by rw [decide_eq_true_eq]; omega), if_pos (by simp)]
    rw [wrap_i64 (n := ((dsk 0 (List.replicate n c)).length : Int) + 16) (by omega) (by omega), wrap_i64 (by omega) (by omega), List.length_append, record_len]
    rw [decide_eq_true (by omega)]
theorem plainJournalFull (z : slotsX Unit (gridmarketlaw44_JournalFull.F 0).din.slots) (h : argsGood (gridmarketlaw44_JournalFull.F 0).din.slots z) : ∃ N, (gridmarketlaw44_JournalFull.F N).run z = some (true, ()) :=
  ⟨50000, law_full z.1 z.2.1 (bytes_of h.1.2.2)⟩
end Go.Proofs.Ytbcbblpkhgmahaa.Abs.T
end

section
namespace Go.Proofs.Ytbcbblpkhgmahaa.Abs.T
open Go.Proofs.Ytbcbblpkhgmahaa.Abs.Crc Go.Proofs.Ytbcbblpkhgmahaa.Abs.Ints

theorem nats_inj : ∀ {a b : List Int}, Bytes a → Bytes b → nats a = nats b → a = b
  | [], [], _, _, _ => rfl
  | x :: a, y :: b, ha, hb, h => by
    simp only [nats, List.map_cons, List.cons.injEq] at h
    have h1 := ha x (by simp)
    have h2 := hb y (by simp)
    rw [show x = y by omega, nats_inj (fun z hz => ha z (by simp [hz])) (fun z hz => hb z (by simp [hz])) h.2]
  | [], _ :: _, _, _, h => by simp [nats] at h
  | _ :: _, [], _, _, h => by simp [nats] at h

/-- A text with its sum behind it leaves one and the same remainder. -/
theorem residue {u : List Int} (hu : Bytes u) : crcN 4294967295 (nats (u ++ four (crcI u))) = stepsN 32 4294967295 := by
  have hs : crcN 4294967295 (nats u) < 2 ^ 32 := crcN_lt _ (by decide) hu.nats
  have hv : 4294967295 ^^^ crcN 4294967295 (nats u) < 2 ^ 32 := Nat.xor_lt_two_pow (by decide) hs
  have e1 : nats (u ++ four (crcI u)) = nats u ++ nats (four (crcI u)) := by simp [nats]
  have e2 : crcN 4294967295 (nats u ++ nats (four (crcI u))) = crcN (crcN 4294967295 (nats u)) (nats (four (crcI u))) := by unfold crcN; rw [List.foldl_append]
  have e3 : nats (four (crcI u)) = [(4294967295 ^^^ crcN 4294967295 (nats u)) % 256, (4294967295 ^^^ crcN 4294967295 (nats u)) / 256 % 256, (4294967295 ^^^ crcN 4294967295 (nats u)) / 65536 % 256, (4294967295 ^^^ crcN 4294967295 (nats u)) / 16777216] := by
    unfold crcI
    rw [four_nat _ hv]
    rfl
  have e4 : numL (nats (four (crcI u))) = 4294967295 ^^^ crcN 4294967295 (nats u) := by
    rw [e3]
    simp only [numL]
    omega
  rw [e1, e2, crcN_num _ _ (four_bytes _).nats, e4]
  rw [show crcN 4294967295 (nats u) ^^^ (4294967295 ^^^ crcN 4294967295 (nats u)) = 4294967295 by rw [Nat.xor_comm 4294967295, ← Nat.xor_assoc, Nat.xor_self, Nat.zero_xor]]
  rfl

theorem parts4 (X : List Int) (r : Nat) : X = X.take r ++ (X.drop r).take 4 ++ X.drop (r + 4) := by
  rw [List.append_assoc, ← List.drop_drop, List.take_append_drop, List.take_append_drop]
theorem window {X Y : List Int} (hX : Bytes X) (hY : Bytes Y) (hl : X.length = Y.length) {r : Nat} (ho : ∀ j, j < r ∨ r + 4 ≤ j → X[j]? = Y[j]?) (hc : crcN 4294967295 (nats X) = crcN 4294967295 (nats Y)) : X = Y := by
  have h1 : X.take r = Y.take r := by
    refine List.ext_getElem? fun j => ?_
    rw [List.getElem?_take, List.getElem?_take]
    split
    · rename_i h; exact ho j (.inl h)
    · rfl
  have h3 : X.drop (r + 4) = Y.drop (r + 4) := by
    refine List.ext_getElem? fun j => ?_
    rw [List.getElem?_drop, List.getElem?_drop]
    exact ho _ (.inr (by omega))
  have bX : ∀ {Z : List Int}, Bytes Z → Bytes (Z.take r) ∧ Bytes ((Z.drop r).take 4) ∧ Bytes (Z.drop (r + 4)) := fun h =>
    ⟨h.mono fun x hx => List.mem_of_mem_take hx, h.mono fun x hx => List.mem_of_mem_drop (List.mem_of_mem_take hx), h.mono fun x hx => List.mem_of_mem_drop hx⟩
  have split : ∀ Z : List Int, nats Z = nats (Z.take r) ++ nats ((Z.drop r).take 4) ++ nats (Z.drop (r + 4)) := fun Z => by
    unfold nats
    rw [← List.map_append, ← List.map_append, ← parts4]
  have hle : ((X.drop r).take 4).length = ((Y.drop r).take 4).length := by rw [List.length_take, List.length_take, List.length_drop, List.length_drop, hl]
  rw [split X, split Y, ← h1, ← h3] at hc
  have h2 := burst (x := 4294967295) (by decide) (bX hX).1.nats (bX hX).2.1.nats (bX hY).2.1.nats (bX hX).2.2.nats (by unfold nats; rw [List.length_map, List.length_map, hle]) (by unfold nats; rw [List.length_map, List.length_take]; omega) hc
  have h2 := nats_inj (bX hX).2.1 (bX hY).2.1 h2
  rw [parts4 X r, parts4 Y r, h1, h2, h3]

/-- A record with a burst in it is no record. -/
theorem burst_begins {n : Int} {c0 rest0 tail : List Int} (hc0 : Bytes c0) (hl0 : c0.length ≤ 2097152) (ht : Bytes tail) (hl : tail.length = (record n c0 ++ rest0).length) {r : Nat} (hr : r < 16 + c0.length)
    (ho : ∀ j, j < r ∨ r + 4 ≤ j → tail[j]? = (record n c0 ++ rest0)[j]?) (hd : tail[r]? ≠ (record n c0 ++ rest0)[r]?) (c : List Int) : ¬ Begins tail n c := by
  rintro ⟨⟨rest, e⟩, hlc⟩
  have hcb : Bytes c := ht.mono fun x hx => by rw [e]; simp [record, hx]
  have key : ∀ (k : Nat) (d : List Int) (rs : List Int), record n d ++ rs = (head8 n d.length ++ four (crcI (head8 n d.length))) ++ ((d ++ four (crcI d)) ++ rs) := fun _ d rs => by simp only [record, List.append_assoc]
  have e1 := key 0 c rest
  have e0 := key 0 c0 rest0
  have h12 : ∀ k : Nat, (head8 n k ++ four (crcI (head8 n k))).length = 12 := fun _ => rfl
  have b12 : ∀ k : Nat, Bytes (head8 n k ++ four (crcI (head8 n k))) := fun k => (head8_bytes _ _).append (four_bytes _)
  have g : ∀ (d rs : List Int) (j : Nat), j < 12 → (record n d ++ rs)[j]? = (head8 n d.length ++ four (crcI (head8 n d.length)))[j]? := fun d rs j hj => by
    rw [key 0, List.getElem?_append_left (by rw [h12]; exact hj)]
  by_cases h : r < 12
  · have hw : head8 n c.length ++ four (crcI (head8 n c.length)) = head8 n c0.length ++ four (crcI (head8 n c0.length)) := by
      refine window (b12 _) (b12 _) ((h12 _).trans (h12 _).symm) (r := r) (fun j hj => ?_) (by rw [residue (head8_bytes _ _), residue (head8_bytes _ _)])
      by_cases hj12 : j < 12
      · rw [← g c rest j hj12, ← g c0 rest0 j hj12, ← e]
        exact ho j hj
      · rw [List.getElem?_eq_none (by rw [h12]; omega), List.getElem?_eq_none (by rw [h12]; omega)]
    apply hd
    rw [e, g _ _ r h, g _ _ r h, hw]
  · have hh : head8 n c.length ++ four (crcI (head8 n c.length)) = head8 n c0.length ++ four (crcI (head8 n c0.length)) := by
      refine List.ext_getElem? fun j => ?_
      by_cases hj12 : j < 12
      · have := ho j (.inl (by omega))
        rw [e, g _ _ j hj12, g _ _ j hj12] at this
        exact this
      · rw [List.getElem?_eq_none (by rw [h12]; omega), List.getElem?_eq_none (by rw [h12]; omega)]
    have hlen : c.length = c0.length := by
      have h8 := (List.append_inj hh ((head8_len _ _).trans (head8_len _ _).symm)).1
      unfold head8 at h8
      have h4 := (List.append_inj h8 ((four_len _).trans (four_len _).symm)).2
      have := (four_inj (wrap_u32_range (c.length : Int)) (wrap_u32_range (c0.length : Int)) (r := []) (s := []) (by rw [h4])).1
      rw [wrap_u32_id (by omega) (by omega), wrap_u32_id (by omega) (by omega)] at this
      omega
    have g4 : ∀ (d rs : List Int) (j : Nat), j < d.length + 4 → (record n d ++ rs)[12 + j]? = (d ++ four (crcI d))[j]? := fun d rs j hj => by
      rw [key 0, List.getElem?_append_right (by rw [h12]; omega), h12, Nat.add_sub_cancel_left, List.getElem?_append_left (by rw [List.length_append, four_len]; omega)]
    have hw : c ++ four (crcI c) = c0 ++ four (crcI c0) := by
      refine window (hcb.append (four_bytes _)) (hc0.append (four_bytes _)) (by rw [List.length_append, List.length_append, hlen, four_len, four_len]) (r := r - 12) (fun j hj => ?_) (by rw [residue hcb, residue hc0])
      by_cases hj4 : j < c.length + 4
      · rw [← g4 c rest j hj4, ← g4 c0 rest0 j (by omega), ← e]
        exact ho _ (by omega)
      · rw [List.getElem?_eq_none (by rw [List.length_append, four_len]; omega), List.getElem?_eq_none (by rw [List.length_append, four_len]; omega)]
    apply hd
    rw [e, show r = 12 + (r - 12) by omega, g4 _ _ _ (by omega), g4 _ _ _ (by omega), hw]
end Go.Proofs.Ytbcbblpkhgmahaa.Abs.T
end
