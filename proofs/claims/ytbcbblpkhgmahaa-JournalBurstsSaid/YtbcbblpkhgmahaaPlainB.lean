import Derived.Test.YtbcbblpkhgmahaaPlainA
set_option linter.unusedVariables false
set_option linter.unusedSimpArgs false
section
namespace Go.Proofs.Ytbcbblpkhgmahaa.Abs.T
open Go.Proofs.Ytbcbblpkhgmahaa.Abs.Crc Go.Proofs.Ytbcbblpkhgmahaa.Abs.Ints

/-- A number in four bytes. -/
def four (n : Int) : List Int := [IntKind.wrap .u8 n, IntKind.wrap .u8 (n / 256), IntKind.wrap .u8 (n / 65536), IntKind.wrap .u8 (n / 2 ^ 24)]
theorem four_len (n : Int) : (four n).length = 4 := rfl
theorem four_bytes (n : Int) : Bytes (four n) := by
  intro x hx
  simp only [four, List.mem_cons, List.not_mem_nil, or_false, wrap_u8] at hx
  omega
theorem Bytes.append {a b : List Int} (ha : Bytes a) (hb : Bytes b) : Bytes (a ++ b) := fun x hx => (List.mem_append.1 hx).elim (ha x) (hb x)
/-- A record's head without its sum, and the record. -/
def head8 (n : Int) (k : Nat) : List Int := four (IntKind.wrap .u32 n) ++ four (IntKind.wrap .u32 (k : Int))
def record (n : Int) (c : List Int) : List Int := head8 n c.length ++ four (crcI (head8 n c.length)) ++ c ++ four (crcI c)
theorem head8_len (n : Int) (k : Nat) : (head8 n k).length = 8 := rfl
theorem head8_bytes (n : Int) (k : Nat) : Bytes (head8 n k) := (four_bytes _).append (four_bytes _)
theorem record_len (n : Int) (c : List Int) : (record n c).length = 16 + c.length := by
  simp only [record, List.length_append, head8_len, four_len]
  omega
theorem record_bytes (n : Int) {c : List Int} (h : Bytes c) : Bytes (record n c) := (((head8_bytes _ _).append (four_bytes _)).append h).append (four_bytes _)

theorem put_ok {N : Nat} {a : Int} {r : List Int} (h : r.length + 4 ≤ 140737488355328) : journal_put.f N a r = some (r ++ four a, ()) := by
  unfold journal_put.f
  exact if_pos (by show (r.length + 4) * 1 ≤ _; omega)
theorem rfour_ok {N : Nat} {a : Int} : gridmarketref44_four.f N a = some (four a, ()) := rfl

theorem enc_q3 {x0 : Int} {c : List Int} (hc : Bytes c) (hl : c.length ≤ 40000) : journal_Encode.q3 50000 x0 c = some (0, record x0 c, ()) := by
  unfold journal_Encode.q3
  have h8 := head8_len x0 c.length
  have hb := head8_bytes x0 c.length
  rw [if_neg (by simp; omega), put_ok (by simp)]
  simp only [Option.bind_some, List.nil_append]
  rw [put_ok (by simp [four_len])]
  simp only [Option.bind_some]
  rw [show four (IntKind.wrap .u32 x0) ++ four (IntKind.wrap .u32 (c.length : Int)) = head8 x0 c.length from rfl, checksum table_N hb (by omega) (by omega)]
  simp only [Option.bind_some]
  rw [put_ok (by omega)]
  simp only [Option.bind_some]
  rw [if_pos (by simp only [List.length_append, four_len]; omega), checksum table_N hc (by omega) (by omega)]
  simp only [Option.bind_some]
  rw [put_ok (by simp only [List.length_append, four_len]; omega)]
  rfl
theorem rec_ok {x0 : Int} {c : List Int} (hc : Bytes c) (hl : c.length ≤ 40000) : gridmarketref44_Record.f 50000 x0 c = some (record x0 c, ()) := by
  unfold gridmarketref44_Record.f
  have h8 := head8_len x0 c.length
  have hb := head8_bytes x0 c.length
  simp only [rfour_ok, Option.bind_some]
  rw [if_pos (by simp only [four_len]; omega)]
  rw [show four (IntKind.wrap .u32 x0) ++ four (IntKind.wrap .u32 (c.length : Int)) = head8 x0 c.length from rfl, ref_checksum hb (by omega) (by omega)]
  simp only [Option.bind_some]
  rw [if_pos (by simp only [four_len]; omega), if_pos (by simp only [List.length_append, four_len]; omega), ref_checksum hc (by omega) (by omega)]
  simp only [Option.bind_some]
  rw [if_pos (by simp only [List.length_append, four_len]; omega)]
  rfl
theorem enc_same (x0 : Int) {c : List Int} (hc : Bytes c) (hl : c.length ≤ 40000) : ∃ e r, journal_Encode.f 50000 x0 c = some (e, r, ()) ∧ gridmarketref44_Encode.f 50000 x0 c = some (e, r, ()) := by
  unfold journal_Encode.f gridmarketref44_Encode.f journal_Encode.q10000002 gridmarketref44_Encode.q10000002 gridmarketref44_Encode.q3
  by_cases h : x0 < 0
  · simp only [decide_eq_true h, if_true]
    exact ⟨_, _, rfl, rfl⟩
  · simp only [decide_eq_false h]
    by_cases h1 : 1024 ≤ x0
    · simp only [decide_eq_true h1, if_true]
      exact ⟨_, _, rfl, rfl⟩
    · simp only [decide_eq_false h1]
      refine ⟨0, record x0 c, ?_, ?_⟩
      · simpa using enc_q3 hc hl
      · have : ¬ 2097152 < (c.length : Int) := by omega
        rw [rec_ok hc hl]
        simp [this]

theorem encodes_q5 (x0 : Int) {c : List Int} (hc : Bytes c) (hl : c.length ≤ 2000) : gridmarketlaw44_JournalEncodes.q5 50000 x0 c = some (true, ()) := by
  unfold gridmarketlaw44_JournalEncodes.q5
  obtain ⟨e, r, h1, h2⟩ := enc_same x0 hc (by omega)
  rw [h1, h2, awake_N]
  simp
theorem law_encodes (n : Int) (c : List Int) (near : Bool) (hc : Bytes c) : gridmarketlaw44_JournalEncodes.f 50000 n c near = some (true, ()) := by
  unfold gridmarketlaw44_JournalEncodes.f
  by_cases h : 2000 < (c.length : Int)
  · rw [if_pos (by simpa using h)]
  · rw [if_neg (by simpa using h)]
    cases near with
    | false => exact encodes_q5 n hc (by omega)
    | true =>
      have : gridmarketmake_Mod.f 50000 n 1026 = some (IntKind.wrap .i64 (Int.tmod (IntKind.wrap .u64 n) (IntKind.wrap .u64 1026)), ()) := by
        unfold gridmarketmake_Mod.f
        exact if_neg (by decide)
      rw [this]
      exact encodes_q5 _ hc (by omega)
theorem plainJournalEncodes (z : slotsX Unit (gridmarketlaw44_JournalEncodes.F 0).din.slots) (h : argsGood (gridmarketlaw44_JournalEncodes.F 0).din.slots z) : ∃ N, (gridmarketlaw44_JournalEncodes.F N).run z = some (true, ()) :=
  ⟨50000, law_encodes z.1 z.2.1 z.2.2.1 (bytes_of h.2.1.2.2)⟩
end Go.Proofs.Ytbcbblpkhgmahaa.Abs.T
end

section
namespace Go.Proofs.Ytbcbblpkhgmahaa.Abs.T
open Go.Proofs.Ytbcbblpkhgmahaa.Abs.Crc Go.Proofs.Ytbcbblpkhgmahaa.Abs.Ints

theorem four_nat (v : Nat) (h : v < 4294967296) : four (v : Int) = [((v % 256 : Nat) : Int), ((v / 256 % 256 : Nat) : Int), ((v / 65536 % 256 : Nat) : Int), ((v / 16777216 : Nat) : Int)] := by
  unfold four
  simp only [wrap_u8]
  have e : ((2 : Int) ^ 24) = 16777216 := by decide
  rw [e]
  have h4 : ((v : Int) / 16777216) % 256 = ((v / 16777216 : Nat) : Int) := by omega
  rw [h4]
  rfl
theorem four_inj {a b : Int} (ha : 0 ≤ a ∧ a < 4294967296) (hb : 0 ≤ b ∧ b < 4294967296) {r s : List Int} (h : four a ++ r = four b ++ s) : a = b ∧ r = s := by
  have := List.append_inj h rfl
  refine ⟨?_, this.2⟩
  obtain ⟨x, rfl⟩ := Int.eq_ofNat_of_zero_le ha.1
  obtain ⟨y, rfl⟩ := Int.eq_ofNat_of_zero_le hb.1
  have e := this.1
  rw [four_nat x (by omega), four_nat y (by omega)] at e
  simp only [List.cons.injEq, and_true] at e
  omega

theorem or_add (a b i : Nat) (h : a < 2 ^ i) : a ||| 2 ^ i * b = a + 2 ^ i * b := by
  rw [Nat.or_comm, ← Nat.two_pow_add_eq_or_of_lt h]
  omega
theorem get_four {N : Nat} {b0 b1 b2 b3 : Nat} (h0 : b0 < 256) (h1 : b1 < 256) (h2 : b2 < 256) (h3 : b3 < 256) (r : List Int) :
    journal_get.f N ((b0 : Int) :: (b1 : Int) :: (b2 : Int) :: (b3 : Int) :: r) = some (((b0 + 256 * b1 + 65536 * b2 + 16777216 * b3 : Nat) : Int), ()) := by
  unfold journal_get.f
  have hl : ((((b0 : Int) :: (b1 : Int) :: (b2 : Int) :: (b3 : Int) :: r).length : Nat) : Int) = (r.length : Int) + 4 := by simp; omega
  rw [if_pos (by rw [hl]; omega), if_pos (by rw [hl]; omega), if_pos (by rw [hl]; omega), if_pos (by rw [hl]; omega)]
  show some (bits .or .u32 (bits .or .u32 (bits .or .u32 (IntKind.wrap .u32 (b0 : Int)) (IntKind.wrap .u32 (IntKind.wrap .u32 (b1 : Int) * 256))) (IntKind.wrap .u32 (IntKind.wrap .u32 (b2 : Int) * 65536))) (IntKind.wrap .u32 (IntKind.wrap .u32 (b3 : Int) * 2 ^ 24)), ()) = _
  have e : ((2 : Int) ^ 24) = 16777216 := by decide
  have w0 : IntKind.wrap .u32 (b0 : Int) = ((b0 : Nat) : Int) := wrap_u32_id (by omega) (by omega)
  have w1 : IntKind.wrap .u32 (IntKind.wrap .u32 (b1 : Int) * 256) = ((2 ^ 8 * b1 : Nat) : Int) := by rw [wrap_u32_id (n := (b1 : Int)) (by omega) (by omega), wrap_u32_id (by omega) (by omega)]; omega
  have w2 : IntKind.wrap .u32 (IntKind.wrap .u32 (b2 : Int) * 65536) = ((2 ^ 16 * b2 : Nat) : Int) := by rw [wrap_u32_id (n := (b2 : Int)) (by omega) (by omega), wrap_u32_id (by omega) (by omega)]; omega
  have w3 : IntKind.wrap .u32 (IntKind.wrap .u32 (b3 : Int) * 2 ^ 24) = ((2 ^ 24 * b3 : Nat) : Int) := by rw [e, wrap_u32_id (n := (b3 : Int)) (by omega) (by omega), wrap_u32_id (by omega) (by omega)]; omega
  rw [w0, w1, w2, w3, or_u32 _ _ (by omega) (by omega), or_add b0 b1 8 (by omega), or_u32 _ _ (by omega) (by omega), or_add _ b2 16 (by omega), or_u32 _ _ (by omega) (by omega), or_add _ b3 24 (by omega)]
/-- Four bytes, split off. -/
theorem split4 {b : List Int} (hb : Bytes b) (hl : 4 ≤ b.length) : ∃ (v : Int) (r : List Int), (0 ≤ v ∧ v < 4294967296) ∧ b = four v ++ r ∧ Bytes r ∧ ∀ N, journal_get.f N b = some (v, ()) := by
  match b, hl with
  | x0 :: x1 :: x2 :: x3 :: r, _ =>
    have h0 := hb x0 (by simp)
    have h1 := hb x1 (by simp)
    have h2 := hb x2 (by simp)
    have h3 := hb x3 (by simp)
    obtain ⟨b0, rfl⟩ := Int.eq_ofNat_of_zero_le h0.1
    obtain ⟨b1, rfl⟩ := Int.eq_ofNat_of_zero_le h1.1
    obtain ⟨b2, rfl⟩ := Int.eq_ofNat_of_zero_le h2.1
    obtain ⟨b3, rfl⟩ := Int.eq_ofNat_of_zero_le h3.1
    refine ⟨((b0 + 256 * b1 + 65536 * b2 + 16777216 * b3 : Nat) : Int), r, by omega, ?_, hb.mono (by intro x hx; simp [hx]), fun N => get_four (by omega) (by omega) (by omega) (by omega) r⟩
    rw [four_nat _ (by omega)]
    rw [show (b0 + 256 * b1 + 65536 * b2 + 16777216 * b3) % 256 = b0 by omega, show (b0 + 256 * b1 + 65536 * b2 + 16777216 * b3) / 256 % 256 = b1 by omega, show (b0 + 256 * b1 + 65536 * b2 + 16777216 * b3) / 65536 % 256 = b2 by omega,
      show (b0 + 256 * b1 + 65536 * b2 + 16777216 * b3) / 16777216 = b3 by omega]
    rfl

theorem rec_eq (n : Int) (c rest : List Int) : record n c ++ rest = four (IntKind.wrap .u32 n) ++ (four (IntKind.wrap .u32 (c.length : Int)) ++ (four (crcI (head8 n c.length)) ++ (c ++ (four (crcI c) ++ rest)))) := by
  simp only [record, head8, List.append_assoc]
theorem wrap_u32_range (n : Int) : 0 ≤ IntKind.wrap .u32 n ∧ IntKind.wrap .u32 n < 4294967296 := by rw [wrap_u32]; omega

/-- Does b begin with record n, of content c? -/
def Begins (b : List Int) (n : Int) (c : List Int) : Prop := (∃ rest, b = record n c ++ rest) ∧ c.length ≤ 2097152

theorem first_q6 {b : List Int} {v0 v4 v8 : Int} {r : List Int} (hb : b = four v0 ++ (four v4 ++ (four v8 ++ r))) (hr : Bytes r) (h4 : 0 ≤ v4 ∧ v4 ≤ 2097152) (hlen : v4 + 4 ≤ (r.length : Int)) (hl : b.length ≤ 40000) :
    ∃ (c : List Int) (t : Int) (rest : List Int), (0 ≤ t ∧ t < 4294967296) ∧ r = c ++ (four t ++ rest) ∧ (c.length : Int) = v4 ∧ Bytes c ∧
      journal_first.q6 50000 b v4 = if t = crcI c then some (c, v4 + 16, true, ()) else some ([], 0, false, ()) := by
  obtain ⟨k, rfl⟩ := Int.eq_ofNat_of_zero_le h4.1
  have hrl : k + 4 ≤ r.length := by omega
  have hbl : b.length = 12 + r.length := by rw [hb]; simp only [List.length_append, four_len]; omega
  obtain ⟨t, rest, ht, e, hrest, hget⟩ := split4 (b := r.drop k) (hr.mono fun x hx => List.mem_of_mem_drop hx) (by rw [List.length_drop]; omega)
  have hc : Bytes (r.take k) := hr.mono fun x hx => List.mem_of_mem_take hx
  have hcl : (r.take k).length = k := by rw [List.length_take]; omega
  refine ⟨r.take k, t, rest, ht, by rw [← e, List.take_append_drop], by rw [hcl], hc, ?_⟩
  have w1 : IntKind.wrap .i64 (k : Int) = (k : Int) := wrap_i64 (by omega) (by omega)
  have w2 : IntKind.wrap .i64 (12 + (k : Int)) = ((k + 12 : Nat) : Int) := by rw [wrap_i64 (by omega) (by omega)]; omega
  have w3 : IntKind.wrap .i64 (((k + 12 : Nat) : Int) + 4) = (k : Int) + 16 := by rw [wrap_i64 (by omega) (by omega)]; omega
  have hdrop : b.drop (k + 12) = r.drop k := by rw [hb]; rfl
  have htake : (b.take (k + 12)).drop 12 = r.take k := by rw [hb]; rfl
  unfold journal_first.q6
  rw [w1, w2, if_pos (by omega), if_pos (by omega)]
  simp only [Int.toNat_natCast, show (12 : Int).toNat = 12 from rfl]
  rw [hdrop, htake, hget, checksum table_N hc (by omega) (by omega)]
  simp only [Option.bind_some, w3]
  by_cases h : t = crcI (r.take k)
  · rw [if_pos h, decide_eq_true h]; rfl
  · rw [if_neg h, decide_eq_false h]; rfl

theorem first_spec {b : List Int} (hb : Bytes b) (hl : b.length ≤ 40000) (n : Int) :
    (∃ c, Begins b n c ∧ journal_first.f 50000 b n = some (c, ((16 + c.length : Nat) : Int), true, ())) ∨ ((∀ c, ¬ Begins b n c) ∧ journal_first.f 50000 b n = some ([], 0, false, ())) := by
  have tr : ∀ K, journal_first.q10000002 50000 K b true = some ([], 0, false, ()) := fun K => rfl
  have fl : ∀ K, journal_first.q10000002 50000 K b false = K b := fun K => rfl
  by_cases h12 : (b.length : Int) < 12
  · refine .inr ⟨fun c ⟨⟨rest, e⟩, _⟩ => ?_, ?_⟩
    · have := congrArg List.length e
      rw [List.length_append, record_len] at this
      omega
    · unfold journal_first.f
      rw [if_pos (decide_eq_true h12)]
      rfl
  obtain ⟨v0, r4, g0, e0, b4, get0⟩ := split4 hb (by omega)
  have l0 := congrArg List.length e0
  rw [List.length_append, four_len] at l0
  obtain ⟨v4, r8, g4, e4, b8, get4⟩ := split4 b4 (by omega)
  have l4 := congrArg List.length e4
  rw [List.length_append, four_len] at l4
  obtain ⟨v8, r12, g8, e8, b12, get8⟩ := split4 b8 (by omega)
  have l8 := congrArg List.length e8
  rw [List.length_append, four_len] at l8
  have eb : b = four v0 ++ (four v4 ++ (four v8 ++ r12)) := by rw [e0, e4, e8]
  have t8 : b.take 8 = four v0 ++ four v4 := by rw [eb]; rfl
  have d8 : b.drop 8 = r8 := by rw [e0, e4]; rfl
  have d4 : b.drop 4 = r4 := by rw [e0]; rfl
  have by8 : Bytes (four v0 ++ four v4) := (four_bytes _).append (four_bytes _)
  have inv : ∀ c, Begins b n c → v0 = IntKind.wrap .u32 n ∧ v4 = (c.length : Int) ∧ v8 = crcI (four v0 ++ four v4) ∧ ∃ rest, r12 = c ++ (four (crcI c) ++ rest) := by
    rintro c ⟨⟨rest, e⟩, hc⟩
    rw [eb, rec_eq] at e
    obtain ⟨i1, e⟩ := four_inj g0 (wrap_u32_range n) e
    obtain ⟨i2, e⟩ := four_inj g4 (wrap_u32_range _) e
    obtain ⟨i3, e⟩ := four_inj g8 (crcI_lt (head8_bytes _ _)) e
    have i2' : v4 = (c.length : Int) := by rw [i2, wrap_u32_id (by omega) (by omega)]
    refine ⟨i1, i2', ?_, rest, e⟩
    rw [i3]
    unfold head8
    rw [← i1, ← i2]
  unfold journal_first.f
  rw [if_neg (by rw [decide_eq_true_eq]; exact h12), get0]
  simp only [Option.bind_some]
  by_cases c0 : v0 = IntKind.wrap .u32 n
  case neg =>
    refine .inr ⟨fun c hc => c0 (inv c hc).1, ?_⟩
    rw [if_pos (by rw [decide_eq_false c0]; rfl)]
    rfl
  rw [if_neg (by rw [decide_eq_true c0]; simp), if_pos (by omega), show (8 : Int).toNat = 8 from rfl, d8, get8]
  simp only [Option.bind_some]
  rw [if_pos (by omega), t8, checksum table_N by8 (by simp [four_len]) (by simp [four_len])]
  simp only [Option.bind_some]
  by_cases c8 : v8 = crcI (four v0 ++ four v4)
  case neg =>
    refine .inr ⟨fun c hc => c8 (inv c hc).2.2.1, ?_⟩
    rw [decide_eq_false c8]
    exact tr _
  rw [decide_eq_true c8, show (!true) = false from rfl, fl]
  unfold journal_first.q3
  rw [if_pos (by omega), show (4 : Int).toNat = 4 from rfl, d4, get4]
  simp only [Option.bind_some]
  have tr5 : ∀ K, journal_first.q10000005 50000 K b v4 true = some ([], 0, false, ()) := fun K => rfl
  have fl5 : ∀ K, journal_first.q10000005 50000 K b v4 false = K b v4 := fun K => rfl
  by_cases c4 : 2097152 < v4
  · refine .inr ⟨fun c hc => ?_, ?_⟩
    · have := (inv c hc).2.1
      have := hc.2
      omega
    · rw [if_pos (decide_eq_true c4)]
      exact tr5 _
  rw [if_neg (by rw [decide_eq_true_eq]; exact c4)]
  have w : IntKind.wrap .i64 (IntKind.wrap .i64 (12 + IntKind.wrap .i64 v4) + 4) = v4 + 16 := by
    rw [wrap_i64 (n := v4) (by omega) (by omega), wrap_i64 (n := 12 + v4) (by omega) (by omega), wrap_i64 (by omega) (by omega)]
    omega
  rw [w]
  by_cases cl : (b.length : Int) < v4 + 16
  · refine .inr ⟨fun c hc => ?_, ?_⟩
    · have h1 := (inv c hc).2.1
      obtain ⟨⟨rest, e⟩, _⟩ := hc
      have := congrArg List.length e
      rw [List.length_append, record_len] at this
      omega
    · rw [decide_eq_true cl]
      exact tr5 _
  rw [decide_eq_false cl, fl5]
  obtain ⟨c, t, rest, ht, er, hcl, hcb, hq⟩ := first_q6 eb b12 ⟨g4.1, by omega⟩ (by omega) hl
  rw [hq]
  by_cases ct : t = crcI c
  · refine .inl ⟨c, ⟨⟨rest, ?_⟩, by omega⟩, ?_⟩
    · rw [rec_eq, eb, er, ct, ← c0, hcl, wrap_u32_id g4.1 g4.2, c8]
      congr 4
      unfold head8
      rw [← c0, hcl, wrap_u32_id g4.1 g4.2]
    · rw [if_pos ct]
      have : v4 + 16 = ((16 + c.length : Nat) : Int) := by omega
      rw [this]
  · refine .inr ⟨fun c' hc' => ?_, ?_⟩
    · obtain ⟨_, i2, _, rest', e'⟩ := inv c' hc'
      rw [er] at e'
      have hlen : c.length = c'.length := by omega
      obtain ⟨i5, e5⟩ := List.append_inj e' hlen
      subst i5
      exact ct (four_inj ht (crcI_lt hcb) e5).1
    · rw [if_neg ct]
end Go.Proofs.Ytbcbblpkhgmahaa.Abs.T
end

section
namespace Go.Proofs.Ytbcbblpkhgmahaa.Abs.T
open Go.Proofs.Ytbcbblpkhgmahaa.Abs.Crc Go.Proofs.Ytbcbblpkhgmahaa.Abs.Ints

theorem begins_unique {b : List Int} {n : Int} {c c' : List Int} (h : Begins b n c) (h' : Begins b n c') : c = c' := by
  obtain ⟨⟨r, e⟩, hl⟩ := h
  obtain ⟨⟨r', e'⟩, hl'⟩ := h'
  rw [rec_eq] at e e'
  rw [e] at e'
  obtain ⟨_, e'⟩ := four_inj (wrap_u32_range n) (wrap_u32_range n) e'
  obtain ⟨i, e'⟩ := four_inj (wrap_u32_range _) (wrap_u32_range _) e'
  rw [wrap_u32_id (by omega) (by omega), wrap_u32_id (by omega) (by omega)] at i
  obtain ⟨_, e'⟩ := four_inj (crcI_lt (head8_bytes _ _)) (crcI_lt (head8_bytes _ _)) e'
  exact (List.append_inj e' (by omega)).1

/-- The records of l, from number i on. -/
def dsk : Nat → List (List Int) → List Int
  | _, [] => []
  | i, c :: r => record (i : Int) c ++ dsk (i + 1) r
theorem dsk_append : ∀ (l l' : List (List Int)) (i : Nat), dsk i (l ++ l') = dsk i l ++ dsk (i + l.length) l'
  | [], l', i => by simp [dsk]
  | c :: r, l', i => by
    show record i c ++ dsk (i + 1) (r ++ l') = record i c ++ dsk (i + 1) r ++ _
    rw [dsk_append r l' (i + 1), List.append_assoc, List.length_cons]
    congr 3
    omega
theorem dsk_len : ∀ (l : List (List Int)) (i : Nat), (dsk i l).length = (l.map fun c => 16 + c.length).sum
  | [], _ => rfl
  | c :: r, i => by
    show (record i c ++ dsk (i + 1) r).length = _
    rw [List.length_append, record_len, dsk_len r (i + 1), List.map_cons, List.sum_cons]
theorem dsk_bytes : ∀ (l : List (List Int)) (i : Nat), (∀ c ∈ l, Bytes c) → Bytes (dsk i l)
  | [], _, _ => fun x hx => by cases hx
  | c :: r, i, h => (record_bytes _ (h c (by simp))).append (dsk_bytes r (i + 1) fun c hc => h c (by simp [hc]))

theorem recover_loop (K : Int → List (List Int) → Option (Int × List (List Int) × Unit)) (tail : List Int) : ∀ (l : List (List Int)) (m : Nat) (pre : List Int) (i : Nat) (acc : List (List Int)), i + l.length ≤ 1024 → acc.length = i →
    Bytes (pre ++ (dsk i l ++ tail)) → (pre ++ (dsk i l ++ tail)).length ≤ 40000 →
    journal_Recover.l2 50000 K (m + l.length) (pre ++ (dsk i l ++ tail)) (pre.length : Int) (i : Int) acc = journal_Recover.l2 50000 K m (pre ++ (dsk i l ++ tail)) ((pre.length + (dsk i l).length : Nat) : Int) ((i + l.length : Nat) : Int) (acc ++ l)
  | [], m, pre, i, acc, _, _, _, _ => by simp [dsk]
  | c :: r, m, pre, i, acc, hi, ha, hb, hl => by
    have hdrop : (pre ++ (dsk i (c :: r) ++ tail)).drop pre.length = record i c ++ (dsk (i + 1) r ++ tail) := by
      rw [List.drop_left]
      show record i c ++ dsk (i + 1) r ++ tail = _
      rw [List.append_assoc]
    have hlen : (pre ++ (dsk i (c :: r) ++ tail)).length = pre.length + ((16 + c.length) + ((dsk (i + 1) r).length + tail.length)) := by
      show (pre ++ (record i c ++ dsk (i + 1) r ++ tail)).length = _
      simp only [List.length_append, record_len]
      omega
    have hb' : Bytes (record i c ++ (dsk (i + 1) r ++ tail)) := by rw [← hdrop]; exact hb.mono fun x hx => List.mem_of_mem_drop hx
    have hbeg : Begins (record i c ++ (dsk (i + 1) r ++ tail)) i c := ⟨⟨_, rfl⟩, by omega⟩
    have hf : journal_first.f 50000 (record i c ++ (dsk (i + 1) r ++ tail)) i = some (c, ((16 + c.length : Nat) : Int), true, ()) := by
      rcases first_spec hb' (by have := congrArg List.length hdrop; rw [List.length_drop] at this; omega) (i : Int) with ⟨c', h1, h2⟩ | ⟨h1, _⟩
      · have e := begins_unique h1 hbeg
        subst e
        exact h2
      · exact absurd hbeg (h1 c)
    rw [show m + (c :: r).length = (m + r.length) + 1 by simp; omega]
    show journal_Recover.p2 50000 K (journal_Recover.l2 50000 K (m + r.length)) (pre ++ (dsk i (c :: r) ++ tail)) (pre.length : Int) (i : Int) acc = _
    have hi1 : i < 1024 := by simp at hi; omega
    unfold journal_Recover.p2
    rw [if_pos (decide_eq_true (show (i : Int) < 1024 by omega)), if_pos (by omega), Int.toNat_natCast, hdrop, hf]
    simp only [Option.bind_some, Bool.not_true, Bool.false_eq_true, if_false, List.nil_append, List.length_nil, List.length_singleton]
    rw [if_pos (by omega), if_pos (by omega)]
    rw [wrap_i64 (by omega) (by omega), wrap_i64 (by omega) (by omega)]
    have e1 : pre ++ (dsk i (c :: r) ++ tail) = (pre ++ record i c) ++ (dsk (i + 1) r ++ tail) := by
      show pre ++ (record i c ++ dsk (i + 1) r ++ tail) = _
      simp only [List.append_assoc]
    have e2 : (pre.length : Int) + ((16 + c.length : Nat) : Int) = ((pre ++ record i c).length : Int) := by rw [List.length_append, record_len]; omega
    rw [e1] at hb hl ⊢
    rw [e2, show (i : Int) + 1 = ((i + 1 : Nat) : Int) from rfl, recover_loop K tail r m (pre ++ record i c) (i + 1) (acc ++ [c]) (by simp at hi; omega) (by simp [ha]) hb hl]
    rw [List.append_assoc acc, List.singleton_append]
    congr 1
    · show (((pre ++ record i c).length + (dsk (i + 1) r).length : Nat) : Int) = ((pre.length + (record i c ++ dsk (i + 1) r).length : Nat) : Int)
      simp only [List.length_append, record_len]
      omega
    · simp; omega

theorem recover_spec {l : List (List Int)} {tail disk : List Int} (hd : disk = dsk 0 l ++ tail) (hb : Bytes disk) (hl : disk.length ≤ 40000) (hn : l.length ≤ 1024) (hs : l.length = 1024 ∨ ∀ c, ¬ Begins tail (l.length : Int) c) :
    journal_Recover.f 50000 disk = some (((dsk 0 l).length : Int), l, ()) := by
  subst hd
  have hl' := hl
  rw [List.length_append] at hl'
  unfold journal_Recover.f
  have := recover_loop (fun y3 yr2 => some (y3, yr2, ())) tail l (50000 - l.length) [] 0 [] (by omega) rfl hb hl
  rw [show (50000 - l.length) + l.length = 50000 by omega] at this
  simp only [List.nil_append, List.length_nil, Nat.zero_add] at this
  refine this.trans ?_
  rw [show 50000 - l.length = (49999 - l.length) + 1 by omega]
  show journal_Recover.p2 50000 _ (journal_Recover.l2 50000 _ (49999 - l.length)) _ _ _ _ = _
  unfold journal_Recover.p2
  by_cases h : l.length = 1024
  · rw [if_neg (by rw [h]; decide)]
  · rw [if_pos (decide_eq_true (show (l.length : Int) < 1024 by omega)), if_pos (by rw [List.length_append]; omega), Int.toNat_natCast, List.drop_left]
    have hs := hs.resolve_left h
    rcases first_spec (b := tail) (hb.mono fun x hx => List.mem_append_right _ hx) (by omega) (l.length : Int) with ⟨c, h1, _⟩ | ⟨_, h2⟩
    · exact absurd h1 (hs c)
    · rw [h2]
      rfl

theorem disk_loop (K : List Int → Option (List Int × Unit)) (l : List (List Int)) (hb : ∀ c ∈ l, Bytes c) (hc : ∀ c ∈ l, c.length ≤ 40000) (hl : l.length ≤ 12) : ∀ (m i : Nat) (acc : List Int), i ≤ l.length → acc.length ≤ 41000 * i →
    gridmarketlaw44_disk.l3 50000 K (m + (l.length - i) + 1) l (i : Int) acc = K (acc ++ dsk i (l.drop i))
  | m, i, acc, hi, ha => by
    show gridmarketlaw44_disk.p3 50000 K (gridmarketlaw44_disk.l3 50000 K (m + (l.length - i))) l (i : Int) acc = _
    unfold gridmarketlaw44_disk.p3
    by_cases h : i = l.length
    · subst h
      rw [if_neg (by simp)]
      simp [dsk]
    · have hi' : i < l.length := by omega
      rw [if_pos (decide_eq_true (by omega)), if_pos (by omega)]
      have hg : l.getD i [] = l[i] := by rw [List.getD_eq_getElem?_getD, List.getElem?_eq_getElem hi']; rfl
      have hm : l[i] ∈ l := List.getElem_mem hi'
      have h40 := hc _ hm
      rw [Int.toNat_natCast, hg, rec_ok (hb _ hm) h40]
      simp only [Option.bind_some]
      rw [if_pos (by rw [record_len]; omega), wrap_i64 (by omega) (by omega), show (i : Int) + 1 = ((i + 1 : Nat) : Int) from rfl, show m + (l.length - i) = m + (l.length - (i + 1)) + 1 by omega]
      rw [disk_loop K l hb hc hl m (i + 1) _ (by omega) (by rw [List.length_append, record_len]; omega)]
      rw [List.drop_eq_getElem_cons hi', List.append_assoc]
      rfl
  termination_by m i => l.length - i
theorem disk_ok {l : List (List Int)} (hb : ∀ c ∈ l, Bytes c) (hc : ∀ c ∈ l, c.length ≤ 40000) (hl : l.length ≤ 12) : gridmarketlaw44_disk.f 50000 l = some (dsk 0 l, ()) := by
  unfold gridmarketlaw44_disk.f
  have := disk_loop (fun yr3 => some (yr3, ())) l hb hc hl (49999 - l.length) 0 [] (by omega) (by simp)
  rw [show 49999 - l.length + (l.length - 0) + 1 = 50000 by omega] at this
  refine this.trans ?_
  simp

theorem light_loop (l : List (List Int)) (hl : l.length ≤ 12) : ∀ (m i : Nat), i ≤ l.length → (∀ c ∈ l.take i, c.length ≤ 200) →
    (gridmarketlaw44_light.l4 50000 (fun _ => some (true, ())) (m + (l.length - i) + 1) l (i : Int) = some (true, ()) ∧ ∀ c ∈ l, c.length ≤ 200) ∨ gridmarketlaw44_light.l4 50000 (fun _ => some (true, ())) (m + (l.length - i) + 1) l (i : Int) = some (false, ())
  | m, i, hi, ht => by
    have e : gridmarketlaw44_light.l4 50000 (fun _ => some (true, ())) (m + (l.length - i) + 1) l (i : Int) = gridmarketlaw44_light.p4 50000 (fun _ => some (true, ())) (gridmarketlaw44_light.l4 50000 (fun _ => some (true, ())) (m + (l.length - i))) l (i : Int) := rfl
    rw [e]
    unfold gridmarketlaw44_light.p4
    by_cases h : i = l.length
    · subst h
      rw [if_neg (by simp)]
      exact .inl ⟨rfl, by simpa using ht⟩
    · have hi' : i < l.length := by omega
      rw [if_pos (decide_eq_true (by omega)), if_pos (by omega)]
      have hg : l.getD i [] = l[i] := by rw [List.getD_eq_getElem?_getD, List.getElem?_eq_getElem hi']; rfl
      rw [Int.toNat_natCast, hg]
      by_cases hc : 200 < (l[i].length : Int)
      · rw [if_pos (decide_eq_true hc)]
        exact .inr rfl
      · rw [if_neg (by rw [decide_eq_true_eq]; exact hc), wrap_i64 (by omega) (by omega), show (i : Int) + 1 = ((i + 1 : Nat) : Int) from rfl, show m + (l.length - i) = m + (l.length - (i + 1)) + 1 by omega]
        refine light_loop l hl m (i + 1) (by omega) fun c hm => ?_
        rw [List.take_succ_eq_append_getElem hi'] at hm
        rcases List.mem_append.1 hm with hm | hm
        · exact ht c hm
        · rw [List.mem_singleton.1 hm]
          omega
  termination_by m i => l.length - i
theorem light_ok (l : List (List Int)) : (gridmarketlaw44_light.f 50000 l = some (true, ()) ∧ l.length ≤ 12 ∧ ∀ c ∈ l, c.length ≤ 200) ∨ gridmarketlaw44_light.f 50000 l = some (false, ()) := by
  unfold gridmarketlaw44_light.f
  by_cases h : 12 < (l.length : Int)
  · rw [if_pos (decide_eq_true h)]
    exact .inr rfl
  · rw [if_neg (by rw [decide_eq_true_eq]; exact h)]
    have := light_loop l (by omega) (49999 - l.length) 0 (by omega) (by simp)
    rw [show 49999 - l.length + (l.length - 0) + 1 = 50000 by omega] at this
    rcases this with ⟨h1, h2⟩ | h1
    · exact .inl ⟨h1, by omega, h2⟩
    · exact .inr h1

theorem same_loop (l : List (List Int)) (hl : l.length ≤ 40000) : ∀ (m i : Nat), i ≤ l.length → gridmarketref44_Same.l4 50000 (fun _ => some (true, ())) (m + (l.length - i) + 1) l l (i : Int) = some (true, ())
  | m, i, hi => by
    show gridmarketref44_Same.p4 50000 (fun _ => some (true, ())) (gridmarketref44_Same.l4 50000 (fun _ => some (true, ())) (m + (l.length - i))) l l (i : Int) = _
    unfold gridmarketref44_Same.p4
    by_cases h : i = l.length
    · subst h
      rw [if_neg (by simp)]
    · rw [if_pos (decide_eq_true (by omega)), if_pos (by omega), if_pos (by omega), if_neg (by simp), wrap_i64 (by omega) (by omega), show (i : Int) + 1 = ((i + 1 : Nat) : Int) from rfl, show m + (l.length - i) = m + (l.length - (i + 1)) + 1 by omega]
      exact same_loop l hl m (i + 1) (by omega)
  termination_by m i => l.length - i
theorem same_ok {l : List (List Int)} (hl : l.length ≤ 40000) : gridmarketref44_Same.f 50000 l l = some (true, ()) := by
  unfold gridmarketref44_Same.f
  rw [if_neg (by simp)]
  have := same_loop l hl (49999 - l.length) 0 (by omega)
  rw [show 49999 - l.length + (l.length - 0) + 1 = 50000 by omega] at this
  exact this
end Go.Proofs.Ytbcbblpkhgmahaa.Abs.T
end

section
namespace Go.Proofs.Ytbcbblpkhgmahaa.Abs.T
open Go.Proofs.Ytbcbblpkhgmahaa.Abs.Crc Go.Proofs.Ytbcbblpkhgmahaa.Abs.Ints

theorem wrap_u64 (n : Int) : IntKind.wrap .u64 n = n % 18446744073709551616 := by simp [IntKind.wrap, IntKind.bits, IntKind.signed]
theorem mod_ok {N : Nat} (a0 : Int) {a1 : Int} (h0 : 0 < a1) (h1 : a1 < 9223372036854775808) : ∃ t, gridmarketmake_Mod.f N a0 a1 = some (t, ()) ∧ 0 ≤ t ∧ t < a1 := by
  have e1 : IntKind.wrap .u64 a1 = a1 := by rw [wrap_u64]; omega
  have e0 : 0 ≤ IntKind.wrap .u64 a0 := by rw [wrap_u64]; omega
  have h2 := Int.tmod_nonneg a1 e0
  have h3 := Int.tmod_lt_of_pos (IntKind.wrap .u64 a0) h0
  refine ⟨Int.tmod (IntKind.wrap .u64 a0) a1, ?_, h2, h3⟩
  unfold gridmarketmake_Mod.f
  rw [e1, if_neg (by omega), wrap_i64 (by omega) (by omega)]

theorem enc_ok {x0 : Int} {c : List Int} (h0 : 0 ≤ x0) (h1 : x0 < 1024) (hc : Bytes c) (hl : c.length ≤ 40000) : journal_Encode.f 50000 x0 c = some (0, record x0 c, ()) := by
  unfold journal_Encode.f journal_Encode.q10000002
  rw [if_neg (by rw [decide_eq_true_eq]; omega), decide_eq_false (by omega)]
  exact enc_q3 hc hl

theorem append_ok {l : List (List Int)} {tail disk c : List Int} (hd : disk = dsk 0 l ++ tail) (hb : Bytes disk) (hl : disk.length ≤ 40000) (hn : l.length < 1024) (hs : ∀ c, ¬ Begins tail (l.length : Int) c) (hc : Bytes c) (hcl : c.length ≤ 40000) :
    journal_Append.f 50000 disk c = some (0, dsk 0 l ++ record (l.length : Int) c, ()) := by
  have hr := recover_spec hd hb hl (by omega) (.inr hs)
  have hlen : disk.length = (dsk 0 l).length + tail.length := by rw [hd, List.length_append]
  have hrl := record_len (l.length : Int) c
  unfold journal_Append.f
  rw [if_neg (by rw [decide_eq_true_eq]; omega), hr]
  simp only [Option.bind_some]
  rw [if_neg (by rw [decide_eq_true_eq]; omega), enc_ok (by omega) (by omega) hc hcl]
  simp only [Option.bind_some]
  rw [if_neg (by simp), wrap_i64 (by omega) (by omega), if_neg (by rw [decide_eq_true_eq]; omega), if_pos (by omega), Int.toNat_natCast]
  have ht : disk.take (dsk 0 l).length = dsk 0 l := by rw [hd, List.take_left]
  rw [ht]
  simp only [List.nil_append, List.length_nil]
  rw [if_pos (by omega), if_pos (by omega)]

theorem not_begins_nil (n : Int) (c : List Int) : ¬ Begins [] n c := by
  rintro ⟨⟨r, e⟩, _⟩
  have := congrArg List.length e
  rw [List.length_append, record_len, List.length_nil] at this
  omega
theorem not_begins_torn {n : Int} {c c' : List Int} {t : Nat} (ht : t < 16 + c.length) (hc : c.length ≤ 2097152) : ¬ Begins ((record n c).take t) n c' := by
  rintro ⟨⟨r, e⟩, hl⟩
  have h1 : Begins (record n c) n c' := ⟨⟨r ++ (record n c).drop t, by rw [← List.append_assoc, ← e, List.take_append_drop]⟩, hl⟩
  have h2 : Begins (record n c) n c := ⟨⟨[], by simp⟩, hc⟩
  have h3 := begins_unique h1 h2
  subst h3
  have := congrArg List.length e
  rw [List.length_append, List.length_take, record_len] at this
  omega

theorem dsk_snoc (l : List (List Int)) (c : List Int) : dsk 0 (l ++ [c]) = dsk 0 l ++ record (l.length : Int) c := by
  rw [dsk_append]
  show dsk 0 l ++ (record ((0 + l.length : Nat) : Int) c ++ []) = _
  rw [List.append_nil, Nat.zero_add]
theorem dsk_bound {l : List (List Int)} {k : Nat} (h : ∀ c ∈ l, c.length ≤ k) (i : Nat) : (dsk i l).length ≤ l.length * (16 + k) := by
  rw [dsk_len]
  induction l with
  | nil => simp
  | cons c r ih =>
    have := h c (by simp)
    have := ih (fun c hc => h c (by simp [hc]))
    rw [List.map_cons, List.sum_cons, List.length_cons, Nat.add_mul]
    omega

theorem tears_q7 {l : List (List Int)} {c : List Int} (at' : Int) (hb : ∀ c ∈ l, Bytes c) (hc : Bytes c) (hl : l.length ≤ 12) (hs : ∀ c ∈ l, c.length ≤ 200) (hcl : c.length ≤ 200) :
    gridmarketlaw44_JournalTears.q7 50000 l c at' (dsk 0 l) (dsk 0 l ++ record (l.length : Int) c) = some (true, ()) := by
  have hdl := dsk_bound hs 0
  have hdl' : (dsk 0 l).length ≤ 12 * 216 := Nat.le_trans hdl (Nat.mul_le_mul_right _ hl)
  have hrl := record_len (l.length : Int) c
  have hnl : (dsk 0 l ++ record (l.length : Int) c).length = (dsk 0 l).length + (16 + c.length) := by rw [List.length_append, hrl]
  have hnb : Bytes (dsk 0 l ++ record (l.length : Int) c) := (dsk_bytes l 0 hb).append (record_bytes _ hc)
  obtain ⟨t, hm, ht0, ht1⟩ := mod_ok (N := 50000) at' (a1 := (16 + c.length : Nat) + 1) (by omega) (by omega)
  obtain ⟨t, rfl⟩ := Int.eq_ofNat_of_zero_le ht0
  unfold gridmarketlaw44_JournalTears.q7
  have w1 : IntKind.wrap .i64 (IntKind.wrap .i64 (((dsk 0 l ++ record (l.length : Int) c).length : Int) - ((dsk 0 l).length : Int)) + 1) = ((16 + c.length : Nat) : Int) + 1 := by
    rw [wrap_i64 (n := ((dsk 0 l ++ record (l.length : Int) c).length : Int) - ((dsk 0 l).length : Int)) (by omega) (by omega), wrap_i64 (by omega) (by omega)]
    omega
  have w2 : IntKind.wrap .i64 (((dsk 0 l).length : Int) + (t : Int)) = (((dsk 0 l).length + t : Nat) : Int) := by rw [wrap_i64 (by omega) (by omega)]; rfl
  have w3 : IntKind.wrap .i64 ((l.length : Int) + 1) = ((l.length + 1 : Nat) : Int) := by rw [wrap_i64 (by omega) (by omega)]; rfl
  rw [w1, hm]
  simp only [Option.bind_some, w2, w3]
  rw [if_pos (by omega), Int.toNat_natCast, List.drop_zero]
  by_cases hk : t = 16 + c.length
  · have htk : (dsk 0 l ++ record (l.length : Int) c).take ((dsk 0 l).length + t) = dsk 0 (l ++ [c]) := by
      rw [List.take_of_length_le (by omega), dsk_snoc]
    have hd : dsk 0 (l ++ [c]) = dsk 0 (l ++ [c]) ++ [] := by simp
    have hb2 : Bytes (dsk 0 (l ++ [c])) := by rw [dsk_snoc]; exact hnb
    have hr := recover_spec hd hb2 (by rw [dsk_snoc]; omega) (by simp; omega) (.inr (not_begins_nil _))
    rw [htk, hr]
    have hl2 : (dsk 0 (l ++ [c])).length = (dsk 0 l).length + t := by rw [dsk_snoc]; omega
    simp only [Option.bind_some]
    rw [if_pos (by rw [decide_eq_true_eq]; omega), if_pos (by rw [decide_eq_true_eq]; omega), if_pos (by rw [decide_eq_true_eq]; simp), if_pos (by simp; omega), Int.toNat_natCast]
    have hg : (l ++ [c]).getD l.length [] = c := by simp [List.getD_eq_getElem?_getD]
    rw [hg, if_pos (by simp), if_pos (by simp only [List.length_append, List.length_singleton]; omega), List.drop_zero, List.take_left, same_ok (by omega)]
    rfl
  · have htk : (dsk 0 l ++ record (l.length : Int) c).take ((dsk 0 l).length + t) = dsk 0 l ++ (record (l.length : Int) c).take t := by
      rw [List.take_append, List.take_of_length_le (by omega), Nat.add_sub_cancel_left]
    have hr := recover_spec htk (hnb.mono fun x hx => List.mem_of_mem_take hx) (by rw [List.length_take]; omega) (by omega) (.inr fun c' => not_begins_torn (by omega) (by omega))
    rw [hr]
    simp only [Option.bind_some]
    rw [if_neg (by rw [decide_eq_true_eq]; omega), if_pos (by simp), same_ok (by omega)]
    rfl

theorem law_tears (l : List (List Int)) (c : List Int) (at' : Int) (hb : ∀ c ∈ l, Bytes c) (hc : Bytes c) : gridmarketlaw44_JournalTears.f 50000 l c at' = some (true, ()) := by
  unfold gridmarketlaw44_JournalTears.f gridmarketlaw44_JournalTears.q10000002
  rcases light_ok l with ⟨h, hl, hs⟩ | h
  · rw [h]
    simp only [Option.bind_some, Bool.not_true, Bool.false_eq_true, if_false]
    by_cases hcl : 200 < (c.length : Int)
    · rw [if_pos (decide_eq_true hcl)]
    · rw [if_neg (by rw [decide_eq_true_eq]; exact hcl)]
      unfold gridmarketlaw44_JournalTears.q3
      have hdl := dsk_bound hs 0
      have hdl' : (dsk 0 l).length ≤ 12 * 216 := Nat.le_trans hdl (Nat.mul_le_mul_right _ hl)
      rw [disk_ok hb (fun c hc => by have := hs c hc; omega) hl]
      simp only [Option.bind_some]
      rw [append_ok (l := l) (tail := []) (by simp) (dsk_bytes l 0 hb) (by omega) (by omega) (not_begins_nil _) hc (by omega), awake_N]
      simp only [Option.bind_some, Bool.not_true, Bool.false_eq_true, if_false, decide_true]
      unfold gridmarketlaw44_JournalTears.q10000006
      have hrl := record_len (l.length : Int) c
      rw [if_neg (by rw [decide_eq_true_eq, List.length_append]; omega)]
      exact tears_q7 at' hb hc hl hs (by omega)
  · rw [h]
    rfl

theorem bytess_of {l : List (List Int)} (h : ∀ x ∈ l, good (.sl (.int .u8)) x) : ∀ c ∈ l, Bytes c := fun c hc => bytes_of (h c hc).2.2
theorem plainJournalTears (z : slotsX Unit (gridmarketlaw44_JournalTears.F 0).din.slots) (h : argsGood (gridmarketlaw44_JournalTears.F 0).din.slots z) : ∃ N, (gridmarketlaw44_JournalTears.F N).run z = some (true, ()) :=
  ⟨50000, law_tears z.1 z.2.1 z.2.2.1 (bytess_of h.1.2.2) (bytes_of h.2.1.2.2)⟩
end Go.Proofs.Ytbcbblpkhgmahaa.Abs.T
end
