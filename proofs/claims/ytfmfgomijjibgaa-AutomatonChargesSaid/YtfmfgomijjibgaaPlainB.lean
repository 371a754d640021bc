import Derived.Test.YtfmfgomijjibgaaPlainA
set_option linter.unusedVariables false
set_option linter.unusedSimpArgs false
section
namespace Go.Proofs.Ytfmfgomijjibgaa.Abs.T
open Go.Proofs.Ytfmfgomijjibgaa.Abs.Ints

/-! ## Successors -/
def nxt (u : U0) (s : Int × Int) : List (Int × Int) :=
  if snd u ∧ isS u s then
    (if s.1 = 0 then (0, min (s.2 + 1) (coff u)) :: (if s.2 < dn u then [] else if 0 < st u then [(1, 1)] else [(2, 1)])
    else if s.1 = 1 then (if s.2 < st u then [(1, s.2 + 1)] else [(2, 1)])
    else if up u ≤ s.2 then [(0, 1), (2, min (s.2 + 1) (con u))] else [(2, min (s.2 + 1) (con u))])
  else []
theorem nxt_len (u : U0) (s : Int × Int) : (nxt u s).length ≤ 2 := by
  unfold nxt
  repeat' split
  all_goals simp
theorem isS_le {u : U0} (h : snd u) {s : Int × Int} (hi : isS u s) : 1 ≤ s.2 ∧ s.2 ≤ 100 := by
  obtain ⟨⟨c1, c2⟩, c3, c4⟩ := snd_caps h
  have hs := h.2.2.1
  unfold isS at hi
  omega
theorem next_ok {N : Nat} (hN : 10 < N) (u : U0) (s : Int × Int) : automaton_Next.f N u s = some (nxt u s, ()) := by
  unfold automaton_Next.f automaton_Next.q10000002
  rw [sound_ok hN]
  simp only [Option.bind_some]
  by_cases h : snd u
  case neg => simp [h, nxt]
  simp only [h, decide_true, Bool.not_true, Bool.false_eq_true, if_false]
  rw [position_ok hN h]
  simp only [Option.bind_some, decide_eq_true_eq]
  by_cases hi : isS u s
  case neg =>
    rw [if_pos ((posI_neg h s).2 hi)]
    simp [nxt, hi]
  rw [if_neg (fun c => (posI_neg h s).1 c hi)]
  obtain ⟨b1, b2⟩ := isS_le h hi
  have w : IntKind.wrap .i64 (s.2 + 1) = s.2 + 1 := wrap_i64 (by omega) (by omega)
  unfold automaton_Next.q3 automaton_Next.q10000013 automaton_Next.q7 automaton_Next.q16 automaton_rise.f
  rw [caps_ok hN, if_pos h]
  simp only [Option.bind_some, show u.2.2.2.2.2.2.2.2.2.2.2.2.1 = st u from rfl, show u.2.2.2.2.2.2.2.2.2.2.2.1 = dn u from rfl, show u.2.2.2.2.2.2.2.2.2.2.1 = up u from rfl, decide_eq_true_eq, w]
  unfold nxt
  rw [if_pos (show snd u ∧ isS u s from ⟨h, hi⟩)]
  have hst := h.2.2.1
  by_cases k0 : s.1 = 0
  · by_cases hd : s.2 < dn u
    · have hd' : ¬ dn u ≤ s.2 := by omega
      simp [k0, hd, hd']
    · have hd' : dn u ≤ s.2 := by omega
      by_cases h0 : st u = 0
      · simp [k0, hd, hd', h0]
      · have h0' : 0 < st u := by omega
        simp [k0, hd, hd', h0, h0']
  · by_cases k1 : s.1 = 1
    · by_cases hd : s.2 < st u
      · simp [k1, hd]
      · simp [k1, hd]
    · by_cases hd : up u ≤ s.2
      · simp [k0, k1, hd]
      · simp [k0, k1, hd]
theorem rnext_ok {N : Nat} (hN : 200 < N) (u : U0) (s : Int × Int) : gridmarketref24_Next.f N u s = some (nxt u s, ()) := by
  unfold gridmarketref24_Next.f
  rw [ris_ok hN]
  simp only [Option.bind_some]
  by_cases h : snd u ∧ isS u s
  case neg =>
    rw [if_pos (by simp only [decide_eq_false h]; rfl)]
    simp [nxt, h]
  rw [if_neg (by simp only [decide_eq_true h]; simp)]
  obtain ⟨h, hi⟩ := h
  obtain ⟨b1, b2⟩ := isS_le h hi
  have w : IntKind.wrap .i64 (s.2 + 1) = s.2 + 1 := wrap_i64 (by omega) (by omega)
  rw [rcaps_ok, if_pos h]
  simp only [Option.bind_some, show u.2.2.2.2.2.2.2.2.2.2.2.2.1 = st u from rfl, show u.2.2.2.2.2.2.2.2.2.2.2.1 = dn u from rfl, show u.2.2.2.2.2.2.2.2.2.2.1 = up u from rfl, decide_eq_true_eq, w]
  unfold nxt
  rw [if_pos (show snd u ∧ isS u s from ⟨h, hi⟩)]
  by_cases k0 : s.1 = 0
  · by_cases hd : s.2 < dn u
    · simp [k0, hd]
    · by_cases h0 : 0 < st u
      · simp [k0, hd, h0]
      · simp [k0, hd, h0]
  · by_cases k1 : s.1 = 1
    · by_cases hd : s.2 < st u
      · simp [k1, hd]
      · simp [k1, hd]
    · by_cases hd : up u ≤ s.2
      · simp [k0, k1, hd]
      · simp [k0, k1, hd]

/-! ## Is a state in a list -/
theorem index_loop (N : Nat) (t : Int × Int) (l : List (Int × Int)) (hl : l.length ≤ 1000) : ∀ (m i : Nat), i ≤ l.length →
    ∃ r : Int, api_UnitState_40.l2 N (fun _ => some (-1, ())) (m + (l.length - i) + 1) l (l.length : Int) (i : Int) t = some (r, ()) ∧ (0 ≤ r ↔ t ∈ l.drop i)
  | m, i, hi => by
    have e : api_UnitState_40.l2 N (fun _ => some (-1, ())) (m + (l.length - i) + 1) l (l.length : Int) (i : Int) t = api_UnitState_40.p2 N (fun _ => some (-1, ())) (api_UnitState_40.l2 N (fun _ => some (-1, ())) (m + (l.length - i))) l (l.length : Int) (i : Int) t := rfl
    rw [e]
    unfold api_UnitState_40.p2
    by_cases h : i = l.length
    · subst h
      rw [if_neg (by simp)]
      exact ⟨-1, rfl, by simp⟩
    · have hi' : i < l.length := by omega
      have hg : l.getD i (0, 0) = l[i] := by rw [List.getD_eq_getElem?_getD, List.getElem?_eq_getElem hi']; rfl
      rw [if_pos (decide_eq_true (by omega)), if_pos (by omega), Int.toNat_natCast, hg, List.drop_eq_getElem_cons hi']
      by_cases he : l[i] = t
      · rw [if_pos (by rw [he]; simp)]
        exact ⟨i, rfl, by rw [he]; simp⟩
      · rw [if_neg (by simp only [Bool.and_eq_true, decide_eq_true_eq]; exact fun c => he (Prod.ext c.1.symm c.2.symm)), wrap_i64 (by omega) (by omega), show (i : Int) + 1 = ((i + 1 : Nat) : Int) from rfl, show m + (l.length - i) = m + (l.length - (i + 1)) + 1 by omega]
        obtain ⟨r, h1, h2⟩ := index_loop N t l hl m (i + 1) (by omega)
        exact ⟨r, h1, by rw [h2, List.mem_cons]; exact ⟨.inr, fun c => c.resolve_left (Ne.symm he)⟩⟩
  termination_by m i => l.length - i
theorem contains_ok {N : Nat} (l : List (Int × Int)) (hl : l.length ≤ 1000) (hN : 1100 < N) (t : Int × Int) : api_UnitState.f N l t = some (decide (t ∈ l), ()) := by
  unfold api_UnitState.f api_UnitState_40.f
  obtain ⟨r, h1, h2⟩ := index_loop N t l hl (N - l.length - 1) 0 (by omega)
  rw [show N - l.length - 1 + (l.length - 0) + 1 = N by omega] at h1
  rw [show ((0 : Nat) : Int) = 0 from rfl] at h1
  rw [h1]
  simp only [Option.bind_some]
  rw [show decide (0 ≤ r) = decide (t ∈ l) from decide_eq_decide.2 (by simpa using h2)]
theorem follows_loop (N : Nat) (t : Int × Int) (l : List (Int × Int)) (hl : l.length ≤ 1000) : ∀ (m i : Nat), i ≤ l.length →
    gridmarketref24_Follows.l3 N (fun _ => some (false, ())) (m + (l.length - i) + 1) (i : Int) t l = some (decide (t ∈ l.drop i), ())
  | m, i, hi => by
    have e : gridmarketref24_Follows.l3 N (fun _ => some (false, ())) (m + (l.length - i) + 1) (i : Int) t l = gridmarketref24_Follows.p3 N (fun _ => some (false, ())) (gridmarketref24_Follows.l3 N (fun _ => some (false, ())) (m + (l.length - i))) (i : Int) t l := rfl
    rw [e]
    unfold gridmarketref24_Follows.p3
    by_cases h : i = l.length
    · subst h
      rw [if_neg (by simp)]
      simp
    · have hi' : i < l.length := by omega
      have hg : l.getD i (0, 0) = l[i] := by rw [List.getD_eq_getElem?_getD, List.getElem?_eq_getElem hi']; rfl
      rw [if_pos (decide_eq_true (by omega)), if_pos (by omega), Int.toNat_natCast, hg, List.drop_eq_getElem_cons hi']
      by_cases he : l[i] = t
      · rw [if_pos (by rw [he]; simp), he]
        simp
      · rw [if_neg (by simp only [Bool.and_eq_true, decide_eq_true_eq]; exact fun c => he (Prod.ext c.1 c.2)), wrap_i64 (by omega) (by omega), show (i : Int) + 1 = ((i + 1 : Nat) : Int) from rfl, show m + (l.length - i) = m + (l.length - (i + 1)) + 1 by omega, follows_loop N t l hl m (i + 1) (by omega)]
        rw [show decide (t ∈ l.drop (i + 1)) = decide (t ∈ l[i] :: l.drop (i + 1)) from decide_eq_decide.2 (by rw [List.mem_cons]; exact ⟨.inr, fun c => c.resolve_left (Ne.symm he)⟩)]
  termination_by m i => l.length - i
theorem follows_ok {N : Nat} (hN : 1100 < N) (u : U0) (s t : Int × Int) : gridmarketref24_Follows.f N u s t = some (decide (t ∈ nxt u s), ()) := by
  unfold gridmarketref24_Follows.f
  rw [rnext_ok (by omega)]
  simp only [Option.bind_some]
  have hl := nxt_len u s
  have := follows_loop N t (nxt u s) (by omega) (N - (nxt u s).length - 1) 0 (by omega)
  rw [show N - (nxt u s).length - 1 + ((nxt u s).length - 0) + 1 = N by omega] at this
  refine this.trans ?_
  simp
theorem same24_loop (N : Nat) (l : List (Int × Int)) (hl : l.length ≤ 1000) : ∀ (m i : Nat), i ≤ l.length → gridmarketref24_Same.l4 N (fun _ => some (true, ())) (m + (l.length - i) + 1) l l (i : Int) = some (true, ())
  | m, i, hi => by
    have e : gridmarketref24_Same.l4 N (fun _ => some (true, ())) (m + (l.length - i) + 1) l l (i : Int) = gridmarketref24_Same.p4 N (fun _ => some (true, ())) (gridmarketref24_Same.l4 N (fun _ => some (true, ())) (m + (l.length - i))) l l (i : Int) := rfl
    rw [e]
    unfold gridmarketref24_Same.p4
    by_cases h : i = l.length
    · subst h
      rw [if_neg (by simp)]
    · rw [if_pos (decide_eq_true (by omega)), if_pos (by omega), if_pos (by omega), if_neg (by simp), wrap_i64 (by omega) (by omega), show (i : Int) + 1 = ((i + 1 : Nat) : Int) from rfl, show m + (l.length - i) = m + (l.length - (i + 1)) + 1 by omega]
      exact same24_loop N l hl m (i + 1) (by omega)
  termination_by m i => l.length - i
theorem same24_ok {N : Nat} (hN : 1100 < N) (l : List (Int × Int)) (hl : l.length ≤ 1000) : gridmarketref24_Same.f N l l = some (true, ()) := by
  unfold gridmarketref24_Same.f
  rw [if_neg (by simp)]
  have := same24_loop N l hl (N - l.length - 1) 0 (by omega)
  rw [show N - l.length - 1 + (l.length - 0) + 1 = N by omega] at this
  exact this

/-! ## Costs -/
def cost (u : U0) (s t : Int × Int) : Int := if s.1 = 0 ∧ t.1 ≠ 0 ∧ t ∈ nxt u s then (if s.2 ≤ hh u then hotc u else coldc u) else 0
theorem cost_ok {N : Nat} (hN : 1100 < N) (u : U0) (s t : Int × Int) : automaton_StartCost.f N u s t = some (cost u s t, ()) := by
  unfold automaton_StartCost.f automaton_StartCost.q10000002 automaton_StartCost.q3 cost
  have hl := nxt_len u s
  rw [next_ok (by omega)]
  simp only [Option.bind_some]
  rw [contains_ok _ (by omega) hN]
  simp only [Option.bind_some, show u.2.2.2.2.2.2.2.2.2.2.2.2.2.2.2.1 = hh u from rfl, show u.2.2.2.2.2.2.2.2.2.2.2.2.2.1 = hotc u from rfl, show u.2.2.2.2.2.2.2.2.2.2.2.2.2.2.1 = coldc u from rfl]
  by_cases h1 : s.1 = 0 <;> by_cases h2 : t.1 = 0 <;> by_cases h3 : t ∈ nxt u s <;> by_cases h4 : s.2 ≤ hh u <;> simp [h1, h2, h3, h4]
theorem rcost_ok {N : Nat} (hN : 1100 < N) (u : U0) (s t : Int × Int) : gridmarketref24_StartCost.f N u s t = some (cost u s t, ()) := by
  unfold gridmarketref24_StartCost.f gridmarketref24_StartCost.q10000002 gridmarketref24_StartCost.q3 cost
  rw [follows_ok hN]
  simp only [Option.bind_some, show u.2.2.2.2.2.2.2.2.2.2.2.2.2.2.2.1 = hh u from rfl, show u.2.2.2.2.2.2.2.2.2.2.2.2.2.1 = hotc u from rfl, show u.2.2.2.2.2.2.2.2.2.2.2.2.2.2.1 = coldc u from rfl]
  by_cases h1 : s.1 = 0 <;> by_cases h2 : t.1 = 0 <;> by_cases h3 : t ∈ nxt u s <;> by_cases h4 : s.2 ≤ hh u <;> simp [h1, h2, h3, h4]
end Go.Proofs.Ytfmfgomijjibgaa.Abs.T
end

section
namespace Go.Proofs.Ytfmfgomijjibgaa.Abs.T
open Go.Proofs.Ytfmfgomijjibgaa.Abs.Ints

theorem small_ok {N : Nat} (v : Int) {n : Int} (h0 : 0 < n) (h1 : n ≤ 1000) : ∃ r, gridmarketref24_small.f N v n = some (r, ()) ∧ 0 ≤ r ∧ r < n := by
  have a1 : Int.tmod v n < n := Int.tmod_lt_of_pos v h0
  have a2 : -n < Int.tmod v n := by
    have := Int.tmod_lt_of_pos (-v) h0
    rw [Int.neg_tmod] at this
    omega
  have w : IntKind.wrap .i64 (Int.tmod v n + n) = Int.tmod v n + n := wrap_i64 (by omega) (by omega)
  refine ⟨Int.tmod (Int.tmod v n + n) n, ?_, Int.tmod_nonneg _ (by omega), Int.tmod_lt_of_pos _ h0⟩
  unfold gridmarketref24_small.f
  rw [if_neg (by omega), if_neg (by omega), w]

theorem near_l9 (N : Nat) (K : U0 → U0 → List Int → Option (U0 × Unit)) (u x2 : U0) : ∀ (m i : Nat) (acc : List Int), i ≤ 4 → acc.length = i →
    ∃ r : List Int, r.length ≤ 4 ∧ gridmarketref24_Near.l9 N K (m + (4 - i) + 1) (i : Int) u x2 acc = K u x2 r
  | m, i, acc, hi, ha => by
    have e : gridmarketref24_Near.l9 N K (m + (4 - i) + 1) (i : Int) u x2 acc = gridmarketref24_Near.p9 N K (gridmarketref24_Near.l9 N K (m + (4 - i))) (i : Int) u x2 acc := rfl
    rw [e]
    unfold gridmarketref24_Near.p9
    simp only [show u.2.2.2.2.2.2.2.2.2.2.2.2.2.2.2.2.2.2.1 = away u from rfl]
    by_cases h : (i : Int) < ((away u).length : Int)
    · rw [if_pos (decide_eq_true h)]
      by_cases h4 : i < 4
      · rw [if_pos (decide_eq_true (by omega)), if_pos (by omega)]
        obtain ⟨r, hr, _⟩ := small_ok (N := N) ((away u).getD (i : Int).toNat 0) (n := 12) (by omega) (by omega)
        rw [hr]
        simp only [Option.bind_some]
        rw [if_pos (by simp only [List.length_singleton]; omega), wrap_i64 (by omega) (by omega), show (i : Int) + 1 = ((i + 1 : Nat) : Int) from rfl, show m + (4 - i) = m + (4 - (i + 1)) + 1 by omega]
        exact near_l9 N K u x2 m (i + 1) _ (by omega) (by simp [ha])
      · rw [if_neg (by rw [decide_eq_true_eq]; omega)]
        exact ⟨acc, by omega, rfl⟩
    · rw [if_neg (by rw [decide_eq_true_eq]; exact h)]
      exact ⟨acc, by omega, rfl⟩
  termination_by m i => 4 - i

/-- What a unit that was brought near is like. -/
structure Nearly (hot cold : Int) (u' : U0) : Prop where
  sound : snd u'
  small : up u' ≤ 3 ∧ dn u' ≤ 3 ∧ st u' ≤ 3 ∧ hh u' ≤ 3 ∧ hours u' ≤ 6
  hot : hotc u' = hot
  cold : coldc u' = cold
  away : (away u').length ≤ 4
/-- .. but for the hours. -/
structure Nigh (u1 : U0) : Prop where
  up : 0 ≤ up u1 ∧ up u1 ≤ 3
  dn : 0 ≤ dn u1 ∧ dn u1 ≤ 3
  st : 0 ≤ st u1 ∧ st u1 ≤ 3
  hh : 0 ≤ hh u1 ∧ hh u1 ≤ 3
  kind : 0 ≤ kind u1 ∧ kind u1 ≤ 2
theorem near_q7 {N : Nat} (hN : 10 < N) (u x2 : U0) (h : Nigh u) (h1 : 1 ≤ hours u ∧ hours u ≤ 6) (h2 : kind u = 1 → hours u ≤ st u) {c d : Int} (hc : u.2.2.2.2.2.2.2.2.2.2.2.2.2.1 = c) (hd : u.2.2.2.2.2.2.2.2.2.2.2.2.2.2.1 = d) : ∃ u', gridmarketref24_Near.q7 N u x2 = some (u', ()) ∧ Nearly c d u' := by
  unfold gridmarketref24_Near.q7
  obtain ⟨k, rfl⟩ : ∃ k, N = k + (4 - 0) + 1 := ⟨N - 5, by omega⟩
  obtain ⟨r, hr, e⟩ := near_l9 (k + (4 - 0) + 1) _ u x2 k 0 [] (by omega) rfl
  refine ⟨_, e, ⟨?_, ?_, hc, hd, hr⟩⟩
  · show (0 ≤ up u ∧ up u ≤ 24) ∧ (0 ≤ dn u ∧ dn u ≤ 24) ∧ (0 ≤ st u ∧ st u ≤ 24) ∧ (0 ≤ hh u ∧ hh u ≤ 24) ∧ (0 ≤ kind u ∧ kind u ≤ 2) ∧ (1 ≤ hours u ∧ hours u ≤ 48) ∧ (kind u = 1 → hours u ≤ st u)
    obtain ⟨g1, g2, g3, g4, g5⟩ := h
    exact ⟨by omega, by omega, by omega, by omega, g5, by omega, h2⟩
  · show up u ≤ 3 ∧ dn u ≤ 3 ∧ st u ≤ 3 ∧ hh u ≤ 3 ∧ hours u ≤ 6
    obtain ⟨g1, g2, g3, g4, g5⟩ := h
    omega
theorem near_q6 {N : Nat} (hN : 10 < N) (u x2 : U0) (h : Nigh u) (h1 : 1 ≤ st u) {c d : Int} (hc : u.2.2.2.2.2.2.2.2.2.2.2.2.2.1 = c) (hd : u.2.2.2.2.2.2.2.2.2.2.2.2.2.2.1 = d) : ∃ u', gridmarketref24_Near.q6 N (fun y1 y2 => gridmarketref24_Near.q7 N y1 y2) u x2 = some (u', ()) ∧ Nearly c d u' := by
  have hst := h.st
  obtain ⟨r7, e7, a7, b7⟩ := small_ok (N := N) (hours u) (n := st u) (by omega) (by omega)
  have w7 : IntKind.wrap .i64 (1 + r7) = 1 + r7 := wrap_i64 (by omega) (by omega)
  unfold gridmarketref24_Near.q6
  rw [show gridmarketref24_small.f N u.2.2.2.2.2.2.2.2.2.2.2.2.2.2.2.2.2.2.2.2.1 u.2.2.2.2.2.2.2.2.2.2.2.2.1 = some (r7, ()) from e7]
  simp only [Option.bind_some]
  rw [w7]
  have hu : 0 ≤ u.2.2.2.2.2.2.2.2.2.2.1 ∧ u.2.2.2.2.2.2.2.2.2.2.1 ≤ 3 := h.up
  have hdn : 0 ≤ u.2.2.2.2.2.2.2.2.2.2.2.1 ∧ u.2.2.2.2.2.2.2.2.2.2.2.1 ≤ 3 := h.dn
  have hs : 0 ≤ u.2.2.2.2.2.2.2.2.2.2.2.2.1 ∧ u.2.2.2.2.2.2.2.2.2.2.2.2.1 ≤ 3 := h.st
  have hhh : 0 ≤ u.2.2.2.2.2.2.2.2.2.2.2.2.2.2.2.1 ∧ u.2.2.2.2.2.2.2.2.2.2.2.2.2.2.2.1 ≤ 3 := h.hh
  have hk : 0 ≤ u.2.2.2.2.2.2.2.2.2.2.2.2.2.2.2.2.2.2.2.1 ∧ u.2.2.2.2.2.2.2.2.2.2.2.2.2.2.2.2.2.2.2.1 ≤ 2 := h.kind
  have hk1 : 1 ≤ 1 + r7 ∧ 1 + r7 ≤ 6 := by omega
  have hk2 : u.2.2.2.2.2.2.2.2.2.2.2.2.2.2.2.2.2.2.2.1 = 1 → 1 + r7 ≤ u.2.2.2.2.2.2.2.2.2.2.2.2.1 := fun _ => by show 1 + r7 ≤ st u; omega
  refine near_q7 hN _ _ ?_ ?_ ?_ ?_ ?_
  · exact ⟨hu, hdn, hs, hhh, hk⟩
  · exact hk1
  · exact hk2
  · exact hc
  · exact hd
theorem bind_ex {α β : Type} {o : Option (α × Unit)} {r : α} {f : α × Unit → Option (β × Unit)} {P : β → Prop} (h : o = some (r, ())) (h2 : ∃ u', f (r, ()) = some (u', ()) ∧ P u') : ∃ u', o.bind f = some (u', ()) ∧ P u' := by
  rw [h]
  exact h2
theorem ite_ex_pos {β : Type} {b : Bool} {x y : Option (β × Unit)} {P : β → Prop} (h : b = true) (h2 : ∃ u', x = some (u', ()) ∧ P u') : ∃ u', (if b then x else y) = some (u', ()) ∧ P u' := by
  rw [if_pos h]
  exact h2
theorem ite_ex_neg {β : Type} {b : Bool} {x y : Option (β × Unit)} {P : β → Prop} (h : b = false) (h2 : ∃ u', y = some (u', ()) ∧ P u') : ∃ u', (if b then x else y) = some (u', ()) ∧ P u' := by
  rw [if_neg (by rw [h]; simp)]
  exact h2
theorem near_ok {N : Nat} (hN : 10 < N) (u : U0) : ∃ u', gridmarketref24_Near.f N u = some (u', ()) ∧ Nearly (hotc u) (coldc u) u' := by
  obtain ⟨r1, e1, a1, b1⟩ := small_ok (N := N) (up u) (n := 4) (by omega) (by omega)
  obtain ⟨r2, e2, a2, b2⟩ := small_ok (N := N) (dn u) (n := 4) (by omega) (by omega)
  obtain ⟨r3, e3, a3, b3⟩ := small_ok (N := N) (st u) (n := 3) (by omega) (by omega)
  obtain ⟨r4, e4, a4, b4⟩ := small_ok (N := N) (hh u) (n := 4) (by omega) (by omega)
  obtain ⟨r5, e5, a5, b5⟩ := small_ok (N := N) (kind u) (n := 3) (by omega) (by omega)
  obtain ⟨r6, e6, a6, b6⟩ := small_ok (N := N) (hours u) (n := 6) (by omega) (by omega)
  have w6 : IntKind.wrap .i64 (1 + r6) = 1 + r6 := wrap_i64 (by omega) (by omega)
  have hc0 : u.2.2.2.2.2.2.2.2.2.2.2.2.2.1 = hotc u := rfl
  have hd0 : u.2.2.2.2.2.2.2.2.2.2.2.2.2.2.1 = coldc u := rfl
  have g1 : 0 ≤ r1 ∧ r1 ≤ 3 := by omega
  have g2 : 0 ≤ r2 ∧ r2 ≤ 3 := by omega
  have g3 : 0 ≤ r3 ∧ r3 ≤ 3 := by omega
  have g4 : 0 ≤ r4 ∧ r4 ≤ 3 := by omega
  have g5 : 0 ≤ r5 ∧ r5 ≤ 2 := by omega
  have g0 : (0 : Int) ≤ 1 ∧ (1 : Int) ≤ 3 := by omega
  have k6 : 1 ≤ IntKind.wrap .i64 (1 + r6) ∧ IntKind.wrap .i64 (1 + r6) ≤ 6 := by rw [w6]; omega
  unfold gridmarketref24_Near.f
  refine bind_ex e1 ?_
  refine bind_ex e2 ?_
  refine bind_ex e3 ?_
  refine bind_ex e4 ?_
  refine bind_ex e5 ?_
  refine bind_ex e6 ?_
  by_cases k1 : r5 = 1
  · refine ite_ex_pos (decide_eq_true k1) ?_
    by_cases k3 : r3 = 0
    · refine ite_ex_pos (decide_eq_true k3) ?_
      refine near_q6 hN _ _ ?_ ?_ ?_ ?_
      · exact ⟨g1, g2, g0, g4, g5⟩
      · exact (show (1 : Int) ≤ 1 by omega)
      · exact hc0
      · exact hd0
    · refine ite_ex_neg (decide_eq_false k3) ?_
      have k4 : 1 ≤ r3 := by omega
      refine near_q6 hN _ _ ?_ ?_ ?_ ?_
      · exact ⟨g1, g2, g3, g4, g5⟩
      · exact k4
      · exact hc0
      · exact hd0
  · refine ite_ex_neg (decide_eq_false k1) ?_
    refine near_q7 hN _ _ ?_ ?_ ?_ ?_ ?_
    · exact ⟨g1, g2, g3, g4, g5⟩
    · exact k6
    · exact fun c : r5 = 1 => absurd c k1
    · exact hc0
    · exact hd0
theorem near_law {N : Nat} (hN : 10 < N) (u : U0) (b : Bool) : ∃ u', gridmarketlaw24_near.f N u b = some (u', ()) := by
  unfold gridmarketlaw24_near.f
  cases b with
  | false => exact ⟨u, rfl⟩
  | true =>
    obtain ⟨u', h, _⟩ := near_ok hN u
    rw [h]
    exact ⟨u', rfl⟩

theorem awake24 : gridmarketlaw24_awake.f 5000 = some (true, ()) := by kernel_rfl

/-! ## AutomatonNext -/
theorem next_l14 (K : Int → U0 → (Int × Int) → List (Int × Int) → Option (Bool × Unit)) (u : U0) (t : Int × Int) (l nx : List (Int × Int)) (hn : nx.length ≤ 100) (x : Nat) (hx : x < l.length) : ∀ (m i : Nat), i ≤ nx.length →
    gridmarketlaw24_AutomatonNext.l14 5000 K (m + (nx.length - i) + 1) (x : Int) (i : Int) u t l nx = K (x : Int) u t l
  | m, i, hi => by
    have e : gridmarketlaw24_AutomatonNext.l14 5000 K (m + (nx.length - i) + 1) (x : Int) (i : Int) u t l nx = gridmarketlaw24_AutomatonNext.p14 5000 K (gridmarketlaw24_AutomatonNext.l14 5000 K (m + (nx.length - i))) (x : Int) (i : Int) u t l nx := rfl
    rw [e]
    unfold gridmarketlaw24_AutomatonNext.p14
    by_cases h : i = nx.length
    · subst h
      rw [if_neg (by simp)]
    · rw [if_pos (decide_eq_true (by omega)), if_pos (by omega), if_pos (by omega), cost_ok (by omega)]
      simp only [Option.bind_some]
      rw [if_pos (by omega), if_pos (by omega), rcost_ok (by omega)]
      simp only [Option.bind_some, decide_true, Bool.not_true, Bool.false_eq_true, if_false]
      rw [wrap_i64 (by omega) (by omega), show (i : Int) + 1 = ((i + 1 : Nat) : Int) from rfl, show m + (nx.length - i) = m + (nx.length - (i + 1)) + 1 by omega]
      exact next_l14 K u t l nx hn x hx m (i + 1) (by omega)
  termination_by m i => nx.length - i
theorem next_l8 (u : U0) (t : Int × Int) (l : List (Int × Int)) (hl : l.length ≤ 1000) : ∀ (m i : Nat), i ≤ l.length →
    gridmarketlaw24_AutomatonNext.l8 5000 (fun _ => some (true, ())) (m + (l.length - i) + 1) (i : Int) u t l = some (true, ())
  | m, i, hi => by
    have e : gridmarketlaw24_AutomatonNext.l8 5000 (fun _ => some (true, ())) (m + (l.length - i) + 1) (i : Int) u t l = gridmarketlaw24_AutomatonNext.p8 5000 (fun _ => some (true, ())) (gridmarketlaw24_AutomatonNext.l8 5000 (fun _ => some (true, ())) (m + (l.length - i))) (i : Int) u t l := rfl
    rw [e]
    unfold gridmarketlaw24_AutomatonNext.p8
    by_cases h : i = l.length
    · subst h
      rw [if_neg (by simp)]
    · rw [if_pos (decide_eq_true (by omega)), if_pos (by omega), rnext_ok (by omega)]
      simp only [Option.bind_some]
      rw [if_pos (by omega), next_ok (by omega)]
      simp only [Option.bind_some]
      have hnl := nxt_len u (l.getD (i : Int).toNat (0, 0))
      rw [same24_ok (by omega) _ (by omega)]
      simp only [Option.bind_some, Bool.not_true, Bool.false_eq_true, if_false]
      rw [if_pos (by omega), cost_ok (by omega)]
      simp only [Option.bind_some]
      rw [if_pos (by omega), rcost_ok (by omega)]
      simp only [Option.bind_some, decide_true, Bool.not_true]
      unfold gridmarketlaw24_AutomatonNext.q10000012
      rw [if_neg (by simp)]
      unfold gridmarketlaw24_AutomatonNext.q13 gridmarketlaw24_AutomatonNext.q9
      have h14 := fun K => next_l14 K u t l (nxt u (l.getD (i : Int).toNat (0, 0))) (by omega) i (by omega) (4999 - (nxt u (l.getD (i : Int).toNat (0, 0))).length) 0 (by omega)
      rw [show 4999 - (nxt u (l.getD (i : Int).toNat (0, 0))).length + ((nxt u (l.getD (i : Int).toNat (0, 0))).length - 0) + 1 = 5000 by omega] at h14
      refine (h14 _).trans ?_
      show gridmarketlaw24_AutomatonNext.l8 5000 (fun _ => some (true, ())) (m + (l.length - i)) (IntKind.wrap .i64 ((i : Int) + 1)) u t l = _
      rw [wrap_i64 (by omega) (by omega), show (i : Int) + 1 = ((i + 1 : Nat) : Int) from rfl, show m + (l.length - i) = m + (l.length - (i + 1)) + 1 by omega]
      exact next_l8 u t l hl m (i + 1) (by omega)
  termination_by m i => l.length - i
theorem law_next (u : U0) (s t : Int × Int) (b : Bool) : gridmarketlaw24_AutomatonNext.f 5000 u s t b = some (true, ()) := by
  unfold gridmarketlaw24_AutomatonNext.f
  split
  · rfl
  obtain ⟨v, hv⟩ := near_law (N := 5000) (by omega) u b
  have hnl := nxt_len v s
  rw [hv]
  simp only [Option.bind_some]
  rw [awake24]
  simp only [Option.bind_some, Bool.not_true, Bool.false_eq_true, if_false]
  rw [next_ok (by omega), rnext_ok (by omega)]
  simp only [Option.bind_some]
  rw [same24_ok (by omega) _ (by omega)]
  simp only [Option.bind_some, Bool.not_true, Bool.false_eq_true, if_false]
  rw [cost_ok (by omega), rcost_ok (by omega)]
  simp only [Option.bind_some, decide_true, Bool.not_true]
  unfold gridmarketlaw24_AutomatonNext.q10000005
  rw [if_neg (by simp)]
  unfold gridmarketlaw24_AutomatonNext.q6
  show (gridmarketref24_States.f 5000 v).bind _ = _
  rw [rstates_ok (by omega)]
  simp only [Option.bind_some]
  have hl : (if snd v then S v else []).length ≤ 1000 := by
    split
    · rename_i h
      have := S_len h
      omega
    · simp
  have := next_l8 v t _ hl (4999 - (if snd v then S v else []).length) 0 (by omega)
  rw [show 4999 - (if snd v then S v else []).length + ((if snd v then S v else []).length - 0) + 1 = 5000 by omega] at this
  exact this
theorem plainAutomatonNext (z : slotsX Unit (gridmarketlaw24_AutomatonNext.F 0).din.slots) (h : argsGood (gridmarketlaw24_AutomatonNext.F 0).din.slots z) : ∃ N, (gridmarketlaw24_AutomatonNext.F N).run z = some (true, ()) :=
  ⟨5000, law_next z.1 z.2.1 z.2.2.1 z.2.2.2.1⟩
end Go.Proofs.Ytfmfgomijjibgaa.Abs.T
end

section
namespace Go.Proofs.Ytfmfgomijjibgaa.Abs.T
open Go.Proofs.Ytfmfgomijjibgaa.Abs.Ints

theorem pstates_l4 (N : Nat) (K : Int → Int → U0 → List (Int × Int) → Option (List (Int × Int) × Unit)) (c : Nat) (hc : c ≤ 100) (x3 x4 : Int) (u : U0) (acc : List (Int × Int)) (ha : acc.length ≤ 1000) : ∀ (m i : Nat), i ≤ c →
    automaton_States.l4 N K (m + (c - i) + 1) x3 x4 (c : Int) (i : Int) u (acc ++ rng 0 i) = K x3 x4 u (acc ++ rng 0 c)
  | m, i, hi => by
    show automaton_States.p4 N K (automaton_States.l4 N K (m + (c - i))) x3 x4 (c : Int) (i : Int) u (acc ++ rng 0 i) = _
    unfold automaton_States.p4
    by_cases h : i = c
    · subst h
      rw [if_neg (by rw [decide_eq_true_eq]; omega)]
    · have w : IntKind.wrap .i64 ((i : Int) + 1) = (i : Int) + 1 := wrap_i64 (by omega) (by omega)
      rw [if_pos (by rw [decide_eq_true_eq]; omega), if_pos (by simp only [List.length_append, rng_len, List.length_singleton]; omega), w, List.append_assoc, ← rng_succ, show (i : Int) + 1 = ((i + 1 : Nat) : Int) from rfl, show m + (c - i) = m + (c - (i + 1)) + 1 by omega]
      exact pstates_l4 N K c hc x3 x4 u acc ha m (i + 1) (by omega)
  termination_by m i => c - i
theorem pstates_l10 (N : Nat) (K : Int → List (Int × Int) → Option (List (Int × Int) × Unit)) (c : Nat) (hc : c ≤ 100) (x4 : Int) (acc : List (Int × Int)) (ha : acc.length ≤ 1000) : ∀ (m i : Nat), i ≤ c →
    automaton_States.l10 N K (m + (c - i) + 1) x4 (c : Int) (i : Int) (acc ++ rng 1 i) = K x4 (acc ++ rng 1 c)
  | m, i, hi => by
    show automaton_States.p10 N K (automaton_States.l10 N K (m + (c - i))) x4 (c : Int) (i : Int) (acc ++ rng 1 i) = _
    unfold automaton_States.p10
    by_cases h : i = c
    · subst h
      rw [if_neg (by rw [decide_eq_true_eq]; omega)]
    · have w : IntKind.wrap .i64 ((i : Int) + 1) = (i : Int) + 1 := wrap_i64 (by omega) (by omega)
      rw [if_pos (by rw [decide_eq_true_eq]; omega), if_pos (by simp only [List.length_append, rng_len, List.length_singleton]; omega), w, List.append_assoc, ← rng_succ, show (i : Int) + 1 = ((i + 1 : Nat) : Int) from rfl, show m + (c - i) = m + (c - (i + 1)) + 1 by omega]
      exact pstates_l10 N K c hc x4 acc ha m (i + 1) (by omega)
  termination_by m i => c - i
theorem pstates_l15 (N : Nat) (K : List (Int × Int) → Option (List (Int × Int) × Unit)) (c : Nat) (hc : c ≤ 100) (acc : List (Int × Int)) (ha : acc.length ≤ 1000) : ∀ (m i : Nat), i ≤ c →
    automaton_States.l15 N K (m + (c - i) + 1) (c : Int) (i : Int) (acc ++ rng 2 i) = K (acc ++ rng 2 c)
  | m, i, hi => by
    show automaton_States.p15 N K (automaton_States.l15 N K (m + (c - i))) (c : Int) (i : Int) (acc ++ rng 2 i) = _
    unfold automaton_States.p15
    by_cases h : i = c
    · subst h
      rw [if_neg (by rw [decide_eq_true_eq]; omega)]
    · have w : IntKind.wrap .i64 ((i : Int) + 1) = (i : Int) + 1 := wrap_i64 (by omega) (by omega)
      rw [if_pos (by rw [decide_eq_true_eq]; omega), if_pos (by simp only [List.length_append, rng_len, List.length_singleton]; omega), w, List.append_assoc, ← rng_succ, show (i : Int) + 1 = ((i + 1 : Nat) : Int) from rfl, show m + (c - i) = m + (c - (i + 1)) + 1 by omega]
      exact pstates_l15 N K c hc acc ha m (i + 1) (by omega)
  termination_by m i => c - i
theorem rng_zero (k : Int) (l : List (Int × Int)) : l ++ rng k 0 = l := by simp [rng]
theorem pstates_ok {N : Nat} (hN : 200 < N) (u : U0) : automaton_States.f N u = some (if snd u then S u else [], ()) := by
  unfold automaton_States.f
  rw [caps_ok (by omega)]
  simp only [Option.bind_some]
  by_cases h : snd u
  · obtain ⟨⟨c1, c2⟩, c3, c4⟩ := snd_caps h
    have hs := h.2.2.1
    simp only [h, if_true]
    obtain ⟨a, ea⟩ := Int.eq_ofNat_of_zero_le (a := coff u) (by omega)
    obtain ⟨b, eb⟩ := Int.eq_ofNat_of_zero_le (a := st u) (by omega)
    obtain ⟨c, ec⟩ := Int.eq_ofNat_of_zero_le (a := con u) (by omega)
    have h4 := fun K => pstates_l4 N K a (by omega) (a : Int) (con u) u [] (by simp) (N - a - 1) 0 (by omega)
    rw [show N - a - 1 + (a - 0) + 1 = N by omega] at h4
    have h10 := fun K => pstates_l10 N K b (by omega) (con u) ([] ++ rng 0 a) (by simp [rng_len]; omega) (N - b - 1) 0 (by omega)
    rw [show N - b - 1 + (b - 0) + 1 = N by omega] at h10
    have h15 := fun K => pstates_l15 N K c (by omega) ([] ++ rng 0 a ++ rng 1 b) (by simp [rng_len]; omega) (N - c - 1) 0 (by omega)
    rw [show N - c - 1 + (c - 0) + 1 = N by omega] at h15
    rw [rng_zero] at h10 h15
    rw [ea]
    refine (h4 _).trans ?_
    show (if decide (0 < (a : Int)) = true then automaton_States.l10 N (fun y4_3 yr5_3 => automaton_States.q14 N y4_3 yr5_3) N (con u) (st u) 0 ([] ++ rng 0 a) else _) = _
    rw [if_pos (decide_eq_true (by omega)), eb]
    refine (h10 _).trans ?_
    unfold automaton_States.q14
    show automaton_States.l15 N (fun yr5_5 => some (yr5_5, ())) N (con u) 0 _ = _
    rw [ec]
    refine (h15 _).trans ?_
    unfold S
    rw [ea, eb, ec]
    simp
  · simp only [h, if_false]
    obtain ⟨k, rfl⟩ : ∃ k, N = k + 1 := ⟨N - 1, by omega⟩
    rfl

def init (u : U0) : Int × Int := if snd u then (kind u, if kind u = 0 then min (hours u) (coff u) else if kind u = 2 then min (hours u) (con u) else hours u) else (0, 0)
theorem init_ok {N : Nat} (hN : 10 < N) (u : U0) : automaton_Initial.f N u = some (init u, ()) := by
  unfold automaton_Initial.f automaton_Initial.q9 init
  rw [sound_ok hN, caps_ok hN]
  simp only [Option.bind_some, show u.2.2.2.2.2.2.2.2.2.2.2.2.2.2.2.2.2.2.2.1 = kind u from rfl, show u.2.2.2.2.2.2.2.2.2.2.2.2.2.2.2.2.2.2.2.2.1 = hours u from rfl]
  by_cases h : snd u
  · by_cases k0 : kind u = 0
    · simp [h, k0]
    · by_cases k2 : kind u = 2
      · simp [h, k2]
      · simp [h, k0, k2]
  · simp [h]
theorem rinit_ok {N : Nat} (u : U0) : gridmarketref24_Initial.f N u = some (init u, ()) := by
  unfold gridmarketref24_Initial.f init
  rw [rsound_ok, rcaps_ok]
  simp only [Option.bind_some, show u.2.2.2.2.2.2.2.2.2.2.2.2.2.2.2.2.2.2.2.1 = kind u from rfl, show u.2.2.2.2.2.2.2.2.2.2.2.2.2.2.2.2.2.2.2.2.1 = hours u from rfl]
  by_cases h : snd u
  · have hk := h.2.2.2.2.1
    by_cases k0 : kind u = 0
    · simp [h, k0]
    · by_cases k2 : kind u = 2
      · simp [h, k2]
      · have k1 : kind u = 1 := by omega
        simp [h, k1]
  · simp [h]
theorem pposition_ok {N : Nat} (hN : 10 < N) (u : U0) (s : Int × Int) : automaton_Position.f N u s = some (if snd u then posI u s else -1, ()) := by
  unfold automaton_Position.f
  rw [sound_ok hN]
  simp only [Option.bind_some]
  by_cases h : snd u
  · rw [position_ok hN h]
    simp [h]
  · simp [h]

theorem states_l10 (u : U0) (l : List (Int × Int)) (hl : l.length ≤ 1000) (hp : ∀ (i : Nat) (h : i < l.length), (if snd u then posI u l[i] else -1) = (i : Int)) : ∀ (m i : Nat), i ≤ l.length →
    gridmarketlaw24_AutomatonStates.l10 5000 (fun _ => some (true, ())) (m + (l.length - i) + 1) (i : Int) u l = some (true, ())
  | m, i, hi => by
    have e : gridmarketlaw24_AutomatonStates.l10 5000 (fun _ => some (true, ())) (m + (l.length - i) + 1) (i : Int) u l = gridmarketlaw24_AutomatonStates.p10 5000 (fun _ => some (true, ())) (gridmarketlaw24_AutomatonStates.l10 5000 (fun _ => some (true, ())) (m + (l.length - i))) (i : Int) u l := rfl
    rw [e]
    unfold gridmarketlaw24_AutomatonStates.p10
    by_cases h : i = l.length
    · subst h
      rw [if_neg (by simp)]
    · have hi' : i < l.length := by omega
      have hg : l.getD i (0, 0) = l[i] := by rw [List.getD_eq_getElem?_getD, List.getElem?_eq_getElem hi']; rfl
      rw [if_pos (decide_eq_true (by omega)), if_pos (by omega), Int.toNat_natCast, hg, pposition_ok (by omega), hp i hi']
      simp only [Option.bind_some, decide_true, Bool.not_true, Bool.false_eq_true, if_false]
      rw [wrap_i64 (by omega) (by omega), show (i : Int) + 1 = ((i + 1 : Nat) : Int) from rfl, show m + (l.length - i) = m + (l.length - (i + 1)) + 1 by omega]
      exact states_l10 u l hl hp m (i + 1) (by omega)
  termination_by m i => l.length - i
theorem law_states (u : U0) (s : Int × Int) (b : Bool) : gridmarketlaw24_AutomatonStates.f 5000 u s b = some (true, ()) := by
  unfold gridmarketlaw24_AutomatonStates.f
  split
  · rfl
  obtain ⟨v, hv⟩ := near_law (N := 5000) (by omega) u b
  rw [hv]
  simp only [Option.bind_some]
  have hl : (if snd v then S v else []).length ≤ 1000 := by
    split
    · rename_i h
      have := S_len h
      omega
    · simp
  rw [caps_ok (by omega), rcaps_ok, awake24]
  simp only [Option.bind_some, Bool.not_true, Bool.false_eq_true, if_false]
  rw [sound_ok (by omega), rsound_ok]
  simp only [Option.bind_some]
  rw [if_neg (by simp), if_neg (by simp), if_neg (by simp), init_ok (by omega), rinit_ok]
  simp only [Option.bind_some]
  rw [if_neg (by simp), pstates_ok (by omega), rstates_ok (by omega)]
  simp only [Option.bind_some]
  rw [same24_ok (by omega) _ hl]
  simp only [Option.bind_some, Bool.not_true, Bool.false_eq_true, if_false]
  rw [pposition_ok (by omega), rposition_ok (by omega)]
  simp only [Option.bind_some, decide_true, Bool.not_true]
  unfold gridmarketlaw24_AutomatonStates.q10000007
  rw [if_neg (by simp)]
  show gridmarketlaw24_AutomatonStates.q8 5000 v = _
  unfold gridmarketlaw24_AutomatonStates.q8
  rw [rstates_ok (by omega)]
  simp only [Option.bind_some]
  have := states_l10 v _ hl (fun i h => by
    by_cases hs : snd v
    · simp only [hs, if_true] at h ⊢
      exact ((S_get hs i (S v)[i]).1 (List.getElem?_eq_getElem h)).2
    · simp only [hs, if_false] at h
      simp at h) (4999 - (if snd v then S v else []).length) 0 (by omega)
  rw [show 4999 - (if snd v then S v else []).length + ((if snd v then S v else []).length - 0) + 1 = 5000 by omega] at this
  exact this
theorem plainAutomatonStates (z : slotsX Unit (gridmarketlaw24_AutomatonStates.F 0).din.slots) (h : argsGood (gridmarketlaw24_AutomatonStates.F 0).din.slots z) : ∃ N, (gridmarketlaw24_AutomatonStates.F N).run z = some (true, ()) :=
  ⟨5000, law_states z.1 z.2.1 z.2.2.1⟩
end Go.Proofs.Ytfmfgomijjibgaa.Abs.T
end

section
namespace Go.Proofs.Ytfmfgomijjibgaa.Abs.T
open Go.Proofs.Ytfmfgomijjibgaa.Abs.Ints

/-! ## Kinds that are allowed, steps, walks -/
def alw (u : U0) (h k : Int) : Bool := decide (k = 0 ∨ ((k = 1 ∨ k = 2) ∧ h ∉ away u))
theorem intIndex_loop (N : Nat) (t : Int) (l : List Int) (hl : l.length ≤ 1000) : ∀ (m i : Nat), i ≤ l.length →
    ∃ r : Int, slices_Index_int_int.l2 N (fun _ => some (-1, ())) (m + (l.length - i) + 1) l t (l.length : Int) (i : Int) = some (r, ()) ∧ (0 ≤ r ↔ t ∈ l.drop i)
  | m, i, hi => by
    have e : slices_Index_int_int.l2 N (fun _ => some (-1, ())) (m + (l.length - i) + 1) l t (l.length : Int) (i : Int) = slices_Index_int_int.p2 N (fun _ => some (-1, ())) (slices_Index_int_int.l2 N (fun _ => some (-1, ())) (m + (l.length - i))) l t (l.length : Int) (i : Int) := rfl
    rw [e]
    unfold slices_Index_int_int.p2
    by_cases h : i = l.length
    · subst h
      rw [if_neg (by simp)]
      exact ⟨-1, rfl, by simp⟩
    · have hi' : i < l.length := by omega
      have hg : l.getD i 0 = l[i] := by rw [List.getD_eq_getElem?_getD, List.getElem?_eq_getElem hi']; rfl
      rw [if_pos (decide_eq_true (by omega)), if_pos (by omega), Int.toNat_natCast, hg, List.drop_eq_getElem_cons hi']
      by_cases he : t = l[i]
      · rw [if_pos (decide_eq_true he)]
        exact ⟨i, rfl, by rw [← he]; simp⟩
      · rw [if_neg (by rw [decide_eq_true_eq]; exact he), wrap_i64 (by omega) (by omega), show (i : Int) + 1 = ((i + 1 : Nat) : Int) from rfl, show m + (l.length - i) = m + (l.length - (i + 1)) + 1 by omega]
        obtain ⟨r, h1, h2⟩ := intIndex_loop N t l hl m (i + 1) (by omega)
        exact ⟨r, h1, by rw [h2, List.mem_cons]; exact ⟨.inr, fun c => c.resolve_left he⟩⟩
  termination_by m i => l.length - i
theorem intContains_ok {N : Nat} (l : List Int) (hl : l.length ≤ 1000) (hN : 1100 < N) (t : Int) : slices_Contains_int_int.f N l t = some (decide (t ∈ l), ()) := by
  unfold slices_Contains_int_int.f slices_Index_int_int.f
  obtain ⟨r, h1, h2⟩ := intIndex_loop N t l hl (N - l.length - 1) 0 (by omega)
  rw [show N - l.length - 1 + (l.length - 0) + 1 = N by omega] at h1
  rw [show ((0 : Nat) : Int) = 0 from rfl] at h1
  rw [h1]
  simp only [Option.bind_some]
  rw [show decide (0 ≤ r) = decide (t ∈ l) from decide_eq_decide.2 (by simpa using h2)]
theorem allowed_ok {N : Nat} (hN : 1100 < N) (u : U0) (ha : (away u).length ≤ 1000) (h k : Int) : automaton_Allowed.f N u h k = some (alw u h k, ()) := by
  unfold automaton_Allowed.f automaton_Allowed.q10000006 automaton_Allowed.q7 alw
  rw [show slices_Contains_int_int.f N u.2.2.2.2.2.2.2.2.2.2.2.2.2.2.2.2.2.2.1 h = some (decide (h ∈ away u), ()) from intContains_ok _ ha hN h]
  simp only [Option.bind_some]
  by_cases k0 : k = 0
  · simp [k0]
  · by_cases k1 : k = 1
    · simp [k1]
    · by_cases k2 : k = 2
      · simp [k2]
      · simp [k0, k1, k2]

def stp (u : U0) (s : Int × Int) (h k : Int) : Option (Int × Int) := if alw u h k then (nxt u s).find? fun t => decide (t.1 = k) else none
theorem step_loop (N : Nat) (k : Int) (z : Int × Int) (l : List (Int × Int)) (hl : l.length ≤ 1000) : ∀ (m i : Nat), i ≤ l.length →
    automaton_step.l4 N (fun _ => some ((0, 0), false, ())) (m + (l.length - i) + 1) k (l.length : Int) (i : Int) z l = some (match (l.drop i).find? fun t => decide (t.1 = k) with | some t => (t, true, ()) | none => ((0, 0), false, ()))
  | m, i, hi => by
    have e : automaton_step.l4 N (fun _ => some ((0, 0), false, ())) (m + (l.length - i) + 1) k (l.length : Int) (i : Int) z l = automaton_step.p4 N (fun _ => some ((0, 0), false, ())) (automaton_step.l4 N (fun _ => some ((0, 0), false, ())) (m + (l.length - i))) k (l.length : Int) (i : Int) z l := rfl
    rw [e]
    unfold automaton_step.p4
    by_cases h : i = l.length
    · subst h
      rw [if_neg (by simp)]
      simp
    · have hi' : i < l.length := by omega
      have hg : l.getD i (0, 0) = l[i] := by rw [List.getD_eq_getElem?_getD, List.getElem?_eq_getElem hi']; rfl
      rw [if_pos (decide_eq_true (by omega)), if_pos (by omega), Int.toNat_natCast, hg, List.drop_eq_getElem_cons hi', List.find?_cons]
      by_cases he : l[i].1 = k
      · rw [if_pos (decide_eq_true he), decide_eq_true he]
      · rw [if_neg (by rw [decide_eq_true_eq]; exact he), decide_eq_false he, wrap_i64 (by omega) (by omega), show (i : Int) + 1 = ((i + 1 : Nat) : Int) from rfl, show m + (l.length - i) = m + (l.length - (i + 1)) + 1 by omega]
        exact step_loop N k z l hl m (i + 1) (by omega)
  termination_by m i => l.length - i
theorem step_ok {N : Nat} (hN : 1100 < N) (u : U0) (ha : (away u).length ≤ 1000) (s : Int × Int) (h k : Int) : automaton_step.f N u s h k = some (match stp u s h k with | some t => (t, true, ()) | none => ((0, 0), false, ())) := by
  unfold automaton_step.f stp
  rw [allowed_ok hN u ha]
  simp only [Option.bind_some]
  cases hA : alw u h k with
  | false => simp
  | true =>
    simp only [Bool.not_true, Bool.false_eq_true, if_false, if_true]
    rw [next_ok (by omega)]
    simp only [Option.bind_some]
    have hl := nxt_len u s
    have := step_loop N k (0, 0) (nxt u s) (by omega) (N - (nxt u s).length - 1) 0 (by omega)
    rw [show N - (nxt u s).length - 1 + ((nxt u s).length - 0) + 1 = N by omega, List.drop_zero] at this
    exact this
theorem stp_some {u : U0} {s t : Int × Int} {h k : Int} (e : stp u s h k = some t) : t ∈ nxt u s ∧ t.1 = k := by
  unfold stp at e
  split at e
  · have h1 := List.find?_some e
    have h2 := List.mem_of_find?_eq_some e
    exact ⟨h2, of_decide_eq_true h1⟩
  · cases e

/-- A walk: the first hour whose kind does not follow, or the states. -/
def wlk (u : U0) : Nat → Int × Int → List Int → Sum Nat (List (Int × Int))
  | _, _, [] => .inr []
  | h, s, k :: ks => match stp u s (h : Int) k with
    | none => .inl h
    | some t => match wlk u (h + 1) t ks with
      | .inl j => .inl j
      | .inr l => .inr (t :: l)
theorem walk_loop (N : Nat) (hN : 1100 < N) (u : U0) (ha : (away u).length ≤ 1000) (ks : List Int) (hk : ks.length ≤ 1000) : ∀ (m i : Nat) (s : Int × Int) (acc : List (Int × Int)), i ≤ ks.length → acc.length = i →
    automaton_Walk.l6 N (fun y1 yr8 => some ((y1.length : Int), 0, yr8, ())) (m + (ks.length - i) + 1) ks ks (ks.length : Int) (i : Int) u s acc = some (match wlk u i s (ks.drop i) with | .inl j => ((j : Int), 16, [], ()) | .inr l => ((ks.length : Int), 0, acc ++ l, ()))
  | m, i, s, acc, hi, hacc => by
    have e : automaton_Walk.l6 N (fun y1 yr8 => some ((y1.length : Int), 0, yr8, ())) (m + (ks.length - i) + 1) ks ks (ks.length : Int) (i : Int) u s acc = automaton_Walk.p6 N (fun y1 yr8 => some ((y1.length : Int), 0, yr8, ())) (automaton_Walk.l6 N (fun y1 yr8 => some ((y1.length : Int), 0, yr8, ())) (m + (ks.length - i))) ks ks (ks.length : Int) (i : Int) u s acc := rfl
    rw [e]
    unfold automaton_Walk.p6
    by_cases h : i = ks.length
    · subst h
      rw [if_neg (by simp)]
      simp [wlk]
    · have hi' : i < ks.length := by omega
      have hg : ks.getD i 0 = ks[i] := by rw [List.getD_eq_getElem?_getD, List.getElem?_eq_getElem hi']; rfl
      rw [if_pos (decide_eq_true (by omega)), if_pos (by omega), Int.toNat_natCast, hg, step_ok hN u ha, List.drop_eq_getElem_cons hi']
      simp only [Option.bind_some, wlk]
      cases hst : stp u s (i : Int) ks[i] with
      | none => simp
      | some t =>
        simp only [Bool.not_true, Bool.false_eq_true, if_false]
        rw [if_pos (by simp only [List.length_singleton]; omega), wrap_i64 (by omega) (by omega), show (i : Int) + 1 = ((i + 1 : Nat) : Int) from rfl, show m + (ks.length - i) = m + (ks.length - (i + 1)) + 1 by omega]
        rw [walk_loop N hN u ha ks hk m (i + 1) t (acc ++ [t]) (by omega) (by simp [hacc])]
        cases wlk u (i + 1) t (ks.drop (i + 1)) with
        | inl j => rfl
        | inr l => simp
  termination_by m i => ks.length - i
theorem wlk_inl {u : U0} : ∀ {h : Nat} {s : Int × Int} {ks : List Int} {j : Nat}, wlk u h s ks = .inl j → j < h + ks.length
  | h, s, [], j, e => by cases e
  | h, s, k :: ks, j, e => by
    simp only [wlk] at e
    split at e
    · cases e
      simp
    · split at e
      · cases e
        rename_i e1
        have := wlk_inl e1
        simp only [List.length_cons]
        omega
      · cases e
theorem wlk_inr {u : U0} : ∀ {h : Nat} {s : Int × Int} {ks : List Int} {l : List (Int × Int)}, wlk u h s ks = .inr l → l.length = ks.length
  | h, s, [], l, e => by cases e; rfl
  | h, s, k :: ks, l, e => by
    simp only [wlk] at e
    split at e
    · cases e
    · split at e
      · cases e
      · cases e
        rename_i e1
        rw [List.length_cons, List.length_cons, wlk_inr e1]
theorem walk_ok {N : Nat} (hN : 2200 < N) (u : U0) (hs : snd u) (ha : (away u).length ≤ 1000) (ks : List Int) (hk : ks.length ≤ 1000) :
    automaton_Walk.f N u ks = some (match wlk u 0 (init u) ks with | .inl j => ((j : Int), 16, [], ()) | .inr l => ((ks.length : Int), 0, l, ())) := by
  unfold automaton_Walk.f
  rw [sound_ok (by omega), init_ok (by omega)]
  simp only [Option.bind_some, hs, decide_true, Bool.not_true, Bool.false_eq_true, if_false]
  have := walk_loop N (by omega) u ha ks hk (N - ks.length - 1) 0 (init u) [] (by omega) rfl
  rw [show N - ks.length - 1 + (ks.length - 0) + 1 = N by omega, List.drop_zero] at this
  exact this
end Go.Proofs.Ytfmfgomijjibgaa.Abs.T
end

section
namespace Go.Proofs.Ytfmfgomijjibgaa.Abs.T
open Go.Proofs.Ytfmfgomijjibgaa.Abs.Ints

/-- The run of a kind, and the state. -/
def Run (u : U0) (s : Int × Int) (k r : Int) : Prop := isS u s ∧ s.1 = k ∧ 1 ≤ r ∧ ((k = 0 ∧ s.2 = min r (coff u)) ∨ (k = 1 ∧ s.2 = r) ∨ (k = 2 ∧ s.2 = min r (con u)))
theorem min_cases (a b : Int) : (min a b = a ∧ a ≤ b) ∨ (min a b = b ∧ b ≤ a) := by
  rcases Int.le_total a b with h | h
  · exact .inl ⟨Int.min_eq_left h, h⟩
  · exact .inr ⟨Int.min_eq_right h, h⟩
theorem mm (r c : Int) : min (min r c + 1) c = min (r + 1) c := by
  rcases min_cases r c with ⟨e, h⟩ | ⟨e, h⟩
  · rw [e]
  · rw [e, Int.min_eq_right (by omega), Int.min_eq_right (by omega)]
/-- What a step does to a run. -/
theorem run_step {u : U0} (h : snd u) {s t : Int × Int} {k r : Int} (H : Run u s k r) (ht : t ∈ nxt u s) :
    (t.1 = k ∧ Run u t k (r + 1) ∧ (k = 1 → r + 1 ≤ st u)) ∨
    (t.1 ≠ k ∧ Run u t t.1 1 ∧ (k = 0 → dn u ≤ r ∧ ((t.1 = 1 ∧ 0 < st u) ∨ (t.1 = 2 ∧ st u = 0))) ∧ (k = 1 → r = st u ∧ t.1 = 2) ∧ (k = 2 → up u ≤ r ∧ t.1 = 0)) := by
  obtain ⟨⟨c1, c2⟩, c3, c4⟩ := snd_caps h
  have hst := h.2.2.1.1
  obtain ⟨hi, hk, hr, hc⟩ := H
  unfold nxt at ht
  rw [if_pos (show snd u ∧ isS u s from ⟨h, hi⟩)] at ht
  unfold isS at hi
  obtain ⟨a, b⟩ := s
  obtain ⟨a', b'⟩ := t
  simp only at hk hc hi ht ⊢
  have hb1 := hi.1
  have m7 : (1 : Int) = min 1 (coff u) := (Int.min_eq_left c1).symm
  have m8 : (1 : Int) = min 1 (con u) := (Int.min_eq_left c3).symm
  rcases hc with ⟨kz, hb⟩ | ⟨kz, hb⟩ | ⟨kz, hb⟩
  · subst kz
    have hbr : b ≤ r := by rw [hb]; exact Int.min_le_left _ _
    rw [if_pos hk] at ht
    have stay : a' = 0 → b' = min (b + 1) (coff u) → (a' = 0 ∧ Run u (a', b') 0 (r + 1) ∧ ((0 : Int) = 1 → r + 1 ≤ st u)) := fun e1 e2 =>
      ⟨e1, ⟨⟨by show 1 ≤ b'; rw [e2]; exact Int.le_min.2 ⟨by omega, c1⟩, .inl ⟨e1, by show b' ≤ _; rw [e2]; exact Int.min_le_right _ _⟩⟩, e1, by omega, .inl ⟨rfl, by show b' = _; rw [e2, hb, mm]⟩⟩, fun c => absurd c (by decide)⟩
    by_cases hd : b < dn u
    · rw [if_pos hd] at ht
      simp only [List.mem_singleton, Prod.mk.injEq] at ht
      exact .inl (stay ht.1 ht.2)
    · rw [if_neg hd] at ht
      have hdr : dn u ≤ r := by omega
      by_cases h0 : 0 < st u
      · rw [if_pos h0] at ht
        simp only [List.mem_cons, List.not_mem_nil, or_false, Prod.mk.injEq] at ht
        rcases ht with ht | ⟨e1, e2⟩
        · exact .inl (stay ht.1 ht.2)
        · subst e1 e2
          exact .inr ⟨by decide, ⟨⟨Int.le_refl _, .inr (.inl ⟨rfl, h0⟩)⟩, rfl, Int.le_refl _, .inr (.inl ⟨rfl, rfl⟩)⟩, fun _ => ⟨hdr, .inl ⟨rfl, h0⟩⟩, fun c => absurd c (by decide), fun c => absurd c (by decide)⟩
      · rw [if_neg h0] at ht
        simp only [List.mem_cons, List.not_mem_nil, or_false, Prod.mk.injEq] at ht
        rcases ht with ht | ⟨e1, e2⟩
        · exact .inl (stay ht.1 ht.2)
        · subst e1 e2
          exact .inr ⟨by decide, ⟨⟨Int.le_refl _, .inr (.inr ⟨rfl, c3⟩)⟩, rfl, Int.le_refl _, .inr (.inr ⟨rfl, m8⟩)⟩, fun _ => ⟨hdr, .inr ⟨rfl, by omega⟩⟩, fun c => absurd c (by decide), fun c => absurd c (by decide)⟩
  · subst kz
    rw [if_neg (by omega), if_pos hk] at ht
    by_cases hd : b < st u
    · rw [if_pos hd] at ht
      simp only [List.mem_singleton, Prod.mk.injEq] at ht
      obtain ⟨e1, e2⟩ := ht
      exact .inl ⟨e1, ⟨⟨by show 1 ≤ b'; omega, .inr (.inl ⟨e1, by show b' ≤ _; omega⟩)⟩, e1, by omega, .inr (.inl ⟨rfl, by show b' = _; omega⟩)⟩, fun _ => by omega⟩
    · rw [if_neg hd] at ht
      simp only [List.mem_singleton, Prod.mk.injEq] at ht
      have hle : b ≤ st u := by omega
      obtain ⟨e1, e2⟩ := ht
      subst e1 e2
      exact .inr ⟨by decide, ⟨⟨Int.le_refl _, .inr (.inr ⟨rfl, c3⟩)⟩, rfl, Int.le_refl _, .inr (.inr ⟨rfl, m8⟩)⟩, fun c => absurd c (by decide), fun _ => ⟨by omega, rfl⟩, fun c => absurd c (by decide)⟩
  · subst kz
    have hbr : b ≤ r := by rw [hb]; exact Int.min_le_left _ _
    rw [if_neg (by omega), if_neg (by omega)] at ht
    have stay : a' = 2 → b' = min (b + 1) (con u) → (a' = 2 ∧ Run u (a', b') 2 (r + 1) ∧ ((2 : Int) = 1 → r + 1 ≤ st u)) := fun e1 e2 =>
      ⟨e1, ⟨⟨by show 1 ≤ b'; rw [e2]; exact Int.le_min.2 ⟨by omega, c3⟩, .inr (.inr ⟨e1, by show b' ≤ _; rw [e2]; exact Int.min_le_right _ _⟩)⟩, e1, by omega, .inr (.inr ⟨rfl, by show b' = _; rw [e2, hb, mm]⟩)⟩, fun c => absurd c (by decide)⟩
    by_cases hd : up u ≤ b
    · rw [if_pos hd] at ht
      simp only [List.mem_cons, List.not_mem_nil, or_false, Prod.mk.injEq] at ht
      rcases ht with ⟨e1, e2⟩ | ht
      · subst e1 e2
        exact .inr ⟨by decide, ⟨⟨Int.le_refl _, .inl ⟨rfl, c1⟩⟩, rfl, Int.le_refl _, .inl ⟨rfl, m7⟩⟩, fun c => absurd c (by decide), fun c => absurd c (by decide), fun _ => ⟨by omega, rfl⟩⟩
      · exact .inl (stay ht.1 ht.2)
    · rw [if_neg hd] at ht
      simp only [List.mem_singleton, Prod.mk.injEq] at ht
      exact .inl (stay ht.1 ht.2)
theorem run_init {u : U0} (hs : snd u) : Run u (init u) (kind u) (hours u) := by
  obtain ⟨⟨c1, c2⟩, c3, c4⟩ := snd_caps hs
  have h := hs
  obtain ⟨_, _, hst, _, hk, hh', h1⟩ := h
  unfold init
  rw [if_pos hs]
  by_cases k0 : kind u = 0
  · rw [if_pos k0]
    exact ⟨⟨Int.le_min.2 ⟨hh'.1, c1⟩, .inl ⟨k0, Int.min_le_right _ _⟩⟩, rfl, hh'.1, .inl ⟨k0, rfl⟩⟩
  · rw [if_neg k0]
    by_cases k2 : kind u = 2
    · rw [if_pos k2]
      exact ⟨⟨Int.le_min.2 ⟨hh'.1, c3⟩, .inr (.inr ⟨k2, Int.min_le_right _ _⟩)⟩, rfl, hh'.1, .inr (.inr ⟨k2, rfl⟩)⟩
    · rw [if_neg k2]
      have k1 : kind u = 1 := by omega
      exact ⟨⟨hh'.1, .inr (.inl ⟨k1, h1 k1⟩)⟩, rfl, hh'.1, .inr (.inl ⟨k1, rfl⟩)⟩

theorem times_l11 (u : U0) (h : snd u) (ks : List Int) (hk : ks.length ≤ 100) : ∀ (m i : Nat) (s : Int × Int) (k r : Int) (l : List (Int × Int)), i ≤ ks.length → Run u s k r → r ≤ 100 + i → wlk u i s (ks.drop i) = .inr l →
    gridmarketlaw24_AutomatonTimes.l11 5000 (fun _ => some (true, ())) (m + (ks.length - i) + 1) ks k r (i : Int) u = some (true, ())
  | m, i, s, k, r, l, hi, H, hr, hw => by
    have e : gridmarketlaw24_AutomatonTimes.l11 5000 (fun _ => some (true, ())) (m + (ks.length - i) + 1) ks k r (i : Int) u = gridmarketlaw24_AutomatonTimes.p11 5000 (fun _ => some (true, ())) (gridmarketlaw24_AutomatonTimes.l11 5000 (fun _ => some (true, ())) (m + (ks.length - i))) ks k r (i : Int) u := rfl
    rw [e]
    unfold gridmarketlaw24_AutomatonTimes.p11
    by_cases hl : i = ks.length
    · subst hl
      rw [if_neg (by simp)]
    · have hi' : i < ks.length := by omega
      have hg : ks.getD i 0 = ks[i] := by rw [List.getD_eq_getElem?_getD, List.getElem?_eq_getElem hi']; rfl
      have c1 : (i : Int) < (ks.length : Int) := by omega
      have c2 : (0 : Int) ≤ (i : Int) ∧ (i : Int) < (ks.length : Int) := ⟨by omega, c1⟩
      rw [List.drop_eq_getElem_cons hi'] at hw
      simp only [wlk] at hw
      split at hw
      · cases hw
      rename_i t hst
      split at hw
      · cases hw
      rename_i l' hw'
      obtain ⟨ht, htk⟩ := stp_some hst
      have hr1 : 1 ≤ r := H.2.2.1
      have w1 : IntKind.wrap .i64 (r + 1) = r + 1 := wrap_i64 (by omega) (by omega)
      have w2 : IntKind.wrap .i64 ((i : Int) + 1) = (i : Int) + 1 := wrap_i64 (by omega) (by omega)
      have hg2 : ks[i]?.getD 0 = ks[i] := by rw [List.getElem?_eq_getElem hi']; rfl
      have em : m + (ks.length - i) = m + (ks.length - (i + 1)) + 1 := by omega
      have hkk : k = 0 ∨ k = 1 ∨ k = 2 := by obtain ⟨_, _, _, q⟩ := H; omega
      rcases run_step h H ht with ⟨g1, g2, g3⟩ | ⟨g1, g2, g3, g4, g5⟩
      · have ek : ks[i] = k := by rw [← htk, g1]
        have hrec := times_l11 u h ks hk m (i + 1) t k (r + 1) l' (by omega) g2 (by omega) hw'
        rw [← em, show ((i + 1 : Nat) : Int) = (i : Int) + 1 from rfl] at hrec
        unfold gridmarketlaw24_AutomatonTimes.q10000016 gridmarketlaw24_AutomatonTimes.q12
        simp only [show u.2.2.2.2.2.2.2.2.2.2.2.2.1 = st u from rfl]
        by_cases k1 : k = 1
        · have := g3 k1
          have hn : ¬ st u < r + 1 := by omega
          subst k1
          rw [ek] at hg2; simp [c1, c2, hg2, w1, w2, hn, hrec]
        · rw [ek] at hg2; simp [c1, c2, hg2, k1, w1, w2, hrec]
      · have ek : ks[i] = t.1 := htk.symm
        rw [← ek] at g2 g3 g4 g5 g1
        have hrec := times_l11 u h ks hk m (i + 1) t ks[i] 1 l' (by omega) g2 (by omega) hw'
        rw [← em, show ((i + 1 : Nat) : Int) = (i : Int) + 1 from rfl] at hrec
        unfold gridmarketlaw24_AutomatonTimes.q10000018 gridmarketlaw24_AutomatonTimes.q10000020 gridmarketlaw24_AutomatonTimes.q10000022 gridmarketlaw24_AutomatonTimes.q23 gridmarketlaw24_AutomatonTimes.q12
        simp only [show u.2.2.2.2.2.2.2.2.2.2.2.2.1 = st u from rfl, show u.2.2.2.2.2.2.2.2.2.2.2.1 = dn u from rfl, show u.2.2.2.2.2.2.2.2.2.2.1 = up u from rfl]
        rcases hkk with k0 | k0 | k0
        · obtain ⟨q1, q2⟩ := g3 k0
          have hn : ¬ r < dn u := by omega
          subst k0
          rcases q2 with ⟨q2, q3⟩ | ⟨q2, q3⟩
          · have hz : ¬ st u = 0 := by omega
            rw [q2] at hrec
            rw [q2] at hg2; simp [c1, c2, hg2, hn, hz, w2, hrec]
          · rw [q2] at hrec
            rw [q2] at hg2; simp [c1, c2, hg2, q3, hn, w2, hrec]
        · obtain ⟨q1, q2⟩ := g4 k0
          subst k0
          rw [q2] at hrec
          rw [q2] at hg2; simp [c1, c2, hg2, q1, w2, hrec]
        · obtain ⟨q1, q2⟩ := g5 k0
          have hn : ¬ r < up u := by omega
          subst k0
          rw [q2] at hrec
          rw [q2] at hg2; simp [c1, c2, hg2, hn, w2, hrec]
  termination_by m i => ks.length - i

theorem law_times (u : U0) (ks : List Int) : gridmarketlaw24_AutomatonTimes.f 5000 u ks = some (true, ()) := by
  unfold gridmarketlaw24_AutomatonTimes.f gridmarketlaw24_AutomatonTimes.q10000002
  split
  · rfl
  by_cases hk : 30 < (ks.length : Int)
  · rw [if_pos (decide_eq_true hk)]
  rw [if_neg (by rw [decide_eq_true_eq]; exact hk)]
  show gridmarketlaw24_AutomatonTimes.q3 5000 ks u = _
  unfold gridmarketlaw24_AutomatonTimes.q3
  obtain ⟨v, hv, hn⟩ := near_ok (N := 5000) (by omega) u
  have hs := hn.sound
  have haw := hn.away
  rw [hv]
  simp only [Option.bind_some]
  rw [walk_ok (by omega) v hs (by omega) ks (by omega), awake24]
  simp only [Option.bind_some, Bool.not_true, Bool.false_eq_true, if_false]
  unfold gridmarketlaw24_AutomatonTimes.q10000006
  cases hw : wlk v 0 (init v) ks with
  | inl j =>
    have hj := wlk_inl hw
    simp only
    rw [if_neg (by simp), if_neg (by simp)]
    show gridmarketlaw24_AutomatonTimes.q7 5000 ks (j : Int) 16 v = _
    unfold gridmarketlaw24_AutomatonTimes.q7
    rw [if_pos (by simp), if_pos (by simp), if_pos (by rw [decide_eq_true_eq]; omega), decide_eq_true (by omega)]
  | inr l =>
    have hl := wlk_inr hw
    simp only
    rw [if_pos (by simp), if_neg (by rw [hl]; simp), if_neg (by simp)]
    show gridmarketlaw24_AutomatonTimes.q7 5000 ks (ks.length : Int) 0 v = _
    unfold gridmarketlaw24_AutomatonTimes.q7
    rw [if_neg (by simp)]
    have := times_l11 v hs ks (by omega) (4999 - ks.length) 0 (init v) (kind v) (hours v) l (by omega) (run_init hs) (by have := hn.small.2.2.2.2; omega) (by rw [List.drop_zero]; exact hw)
    rw [show 4999 - ks.length + (ks.length - 0) + 1 = 5000 by omega] at this
    exact this
theorem plainAutomatonTimes (z : slotsX Unit (gridmarketlaw24_AutomatonTimes.F 0).din.slots) (h : argsGood (gridmarketlaw24_AutomatonTimes.F 0).din.slots z) : ∃ N, (gridmarketlaw24_AutomatonTimes.F N).run z = some (true, ()) :=
  ⟨5000, law_times z.1 z.2.1⟩
end Go.Proofs.Ytfmfgomijjibgaa.Abs.T
end
