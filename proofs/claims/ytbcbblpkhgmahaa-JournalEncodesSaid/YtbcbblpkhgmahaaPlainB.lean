import Derived.Test.YtbcbblpkhgmahaaPlainA
set_option linter.unusedVariables false
set_option linter.unusedSimpArgs false
section
namespace Go.Proofs.Ytbcbblpkhgmahaa.Abs.T
open Go.Proofs.Ytbcbblpkhgmahaa.Abs.Crc Go.Proofs.Ytbcbblpkhgmahaa.Abs.Ints

/-- A number in four bytes. -/
def four (n : Int) : List Int := [IntKind.wrap .u8 n, IntKind.wrap .u8 (n / 256), IntKind.wrap .u8 (n / 65536), IntKind.wrap .u8 (n / 2 ^ 24)]
theorem four_len (n : Int) : (four n).length = 4 := rfl
theorem four_bytes (n : Int) : Bytes (four n) := by
  intro x hx
  simp only [four, List.mem_cons, List.not_mem_nil, or_false, wrap_u8] at hx
  omega
theorem Bytes.append {a b : List Int} (ha : Bytes a) (hb : Bytes b) : Bytes (a ++ b) := fun x hx => (List.mem_append.1 hx).elim (ha x) (hb x)
/-- A record's head without its sum, and the record. -/
def head8 (n : Int) (k : Nat) : List Int := four (IntKind.wrap .u32 n) ++ four (IntKind.wrap .u32 (k : Int))
def record (n : Int) (c : List Int) : List Int := head8 n c.length ++ four (crcI (head8 n c.length)) ++ c ++ four (crcI c)
theorem head8_len (n : Int) (k : Nat) : (head8 n k).length = 8 := rfl
theorem head8_bytes (n : Int) (k : Nat) : Bytes (head8 n k) := (four_bytes _).append (four_bytes _)
theorem record_len (n : Int) (c : List Int) : (record n c).length = 16 + c.length := by
  simp only [record, List.length_append, head8_len, four_len]
  omega
theorem record_bytes (n : Int) {c : List Int} (h : Bytes c) : Bytes (record n c) := (((head8_bytes _ _).append (four_bytes _)).append h).append (four_bytes _)

theorem put_ok {N : Nat} {a : Int} {r : List Int} (h : r.length + 4 ≤ 140737488355328) : journal_put.f N a r = some (r ++ four a, ()) := by
  unfold journal_put.f
  exact if_pos (by show (r.length + 4) * 1 ≤ _; omega)
theorem rfour_ok {N : Nat} {a : Int} : gridmarketref44_four.f N a = some (four a, ()) := rfl

theorem enc_q3 {x0 : Int} {c : List Int} (hc : Bytes c) (hl : c.length ≤ 40000) : journal_Encode.q3 50000 x0 c = some (0, record x0 c, ()) := by
  unfold journal_Encode.q3
  have h8 := head8_len x0 c.length
  have hb := head8_bytes x0 c.length
  rw [if_neg (by simp; omega), put_ok (by simp)]
  simp only [Option.bind_some, List.nil_append]
  rw [put_ok (by simp [four_len])]
  simp only [Option.bind_some]
  rw [show four (IntKind.wrap .u32 x0) ++ four (IntKind.wrap .u32 (c.length : Int)) = head8 x0 c.length from rfl, checksum table_N hb (by omega) (by omega)]
  simp only [Option.bind_some]
  rw [put_ok (by omega)]
  simp only [Option.bind_some]
  rw [if_pos (by simp only [List.length_append, four_len]; omega), checksum table_N hc (by omega) (by omega)]
  simp only [Option.bind_some]
  rw [put_ok (by simp only [List.length_append, four_len]; omega)]
  rfl
theorem rec_ok {x0 : Int} {c : List Int} (hc : Bytes c) (hl : c.length ≤ 40000) : gridmarketref44_Record.f 50000 x0 c = some (record x0 c, ()) := by
  unfold gridmarketref44_Record.f
  have h8 := head8_len x0 c.length
  have hb := head8_bytes x0 c.length
  simp only [rfour_ok, Option.bind_some]
  rw [if_pos (by simp only [four_len]; omega)]
  rw [show four (IntKind.wrap .u32 x0) ++ four (IntKind.wrap .u32 (c.length : Int)) = head8 x0 c.length from rfl, ref_checksum hb (by omega) (by omega)]
  simp only [Option.bind_some]
  rw [if_pos (by simp only [four_len]; omega), if_pos (by simp only [List.length_append, four_len]; omega), ref_checksum hc (by omega) (by omega)]
  simp only [Option.bind_some]
  rw [if_pos (by simp only [List.length_append, four_len]; omega)]
  rfl
theorem enc_same (x0 : Int) {c : List Int} (hc : Bytes c) (hl : c.length ≤ 40000) : ∃ e r, journal_Encode.f 50000 x0 c = some (e, r, ()) ∧ gridmarketref44_Encode.f 50000 x0 c = some (e, r, ()) := by
  unfold journal_Encode.f gridmarketref44_Encode.f journal_Encode.q10000002 gridmarketref44_Encode.q10000002 gridmarketref44_Encode.q3
  by_cases h : x0 < 0
  · simp only [decide_eq_true h, if_true]
    exact ⟨_, _, rfl, rfl⟩
  · simp only [decide_eq_false h]
    by_cases h1 : 1024 ≤ x0
    · simp only [decide_eq_true h1, if_true]
      exact ⟨_, _, rfl, rfl⟩
    · simp only [decide_eq_false h1]
      refine ⟨0, record x0 c, ?_, ?_⟩
      · simpa using enc_q3 hc hl
      · have : ¬ 2097152 < (c.length : Int) := by omega
        rw [rec_ok hc hl]
        simp [this]

theorem encodes_q5 (x0 : Int) {c : List Int} (hc : Bytes c) (hl : c.length ≤ 2000) : gridmarketlaw44_JournalEncodes.q5 50000 x0 c = some (true, ()) := by
  unfold gridmarketlaw44_JournalEncodes.q5
  obtain ⟨e, r, h1, h2⟩ := enc_same x0 hc (by omega)
  rw [h1, h2, awake_N]
  simp
theorem law_encodes (n : Int) (c : List Int) (near : Bool) (hc : Bytes c) : gridmarketlaw44_JournalEncodes.f 50000 n c near = some (true, ()) := by
  unfold gridmarketlaw44_JournalEncodes.f
  by_cases h : 2000 < (c.length : Int)
  · rw [if_pos (by simpa using h)]
  · rw [if_neg (by simpa using h)]
    cases near with
    | false => exact encodes_q5 n hc (by omega)
    | true =>
      have : gridmarketmake_Mod.f 50000 n 1026 = some (IntKind.wrap .i64 (Int.tmod (IntKind.wrap .u64 n) (IntKind.wrap .u64 1026)), ()) := by
        unfold gridmarketmake_Mod.f
        exact if_neg (by decide)
      rw [this]
      exact encodes_q5 _ hc (by omega)
theorem plainJournalEncodes (z : slotsX Unit (gridmarketlaw44_JournalEncodes.F 0).din.slots) (h : argsGood (gridmarketlaw44_JournalEncodes.F 0).din.slots z) : ∃ N, (gridmarketlaw44_JournalEncodes.F N).run z = some (true, ()) :=
  ⟨50000, law_encodes z.1 z.2.1 z.2.2.1 (bytes_of h.2.1.2.2)⟩
end Go.Proofs.Ytbcbblpkhgmahaa.Abs.T
end
