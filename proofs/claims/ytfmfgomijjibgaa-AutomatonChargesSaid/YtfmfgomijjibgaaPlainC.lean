import Derived.Test.YtfmfgomijjibgaaPlainB
set_option linter.unusedVariables false
set_option linter.unusedSimpArgs false
section
namespace Go.Proofs.Ytfmfgomijjibgaa.Abs.T
open Go.Proofs.Ytfmfgomijjibgaa.Abs.Ints

theorem in_loop (N : Nat) (t : Int) (l : List Int) (hl : l.length ≤ 1000) : ∀ (m i : Nat), i ≤ l.length →
    gridmarketref24_In.l2 N (fun _ => some (false, ())) (m + (l.length - i) + 1) l t (i : Int) = some (decide (t ∈ l.drop i), ())
  | m, i, hi => by
    have e : gridmarketref24_In.l2 N (fun _ => some (false, ())) (m + (l.length - i) + 1) l t (i : Int) = gridmarketref24_In.p2 N (fun _ => some (false, ())) (gridmarketref24_In.l2 N (fun _ => some (false, ())) (m + (l.length - i))) l t (i : Int) := rfl
    rw [e]
    unfold gridmarketref24_In.p2
    by_cases h : i = l.length
    · subst h
      rw [if_neg (by simp)]
      simp
    · have hi' : i < l.length := by omega
      have hg : l.getD i 0 = l[i] := by rw [List.getD_eq_getElem?_getD, List.getElem?_eq_getElem hi']; rfl
      rw [if_pos (decide_eq_true (by omega)), if_pos (by omega), Int.toNat_natCast, hg, List.drop_eq_getElem_cons hi']
      by_cases he : l[i] = t
      · rw [if_pos (decide_eq_true he), he]
        simp
      · rw [if_neg (by rw [decide_eq_true_eq]; exact he), wrap_i64 (by omega) (by omega), show (i : Int) + 1 = ((i + 1 : Nat) : Int) from rfl, show m + (l.length - i) = m + (l.length - (i + 1)) + 1 by omega, in_loop N t l hl m (i + 1) (by omega)]
        rw [show decide (t ∈ l.drop (i + 1)) = decide (t ∈ l[i] :: l.drop (i + 1)) from decide_eq_decide.2 (by rw [List.mem_cons]; exact ⟨.inr, fun c => c.resolve_left (Ne.symm he)⟩)]
  termination_by m i => l.length - i
theorem rallowed_ok {N : Nat} (hN : 1100 < N) (u : U0) (ha : (away u).length ≤ 1000) (h k : Int) : gridmarketref24_Allowed.f N u h k = some (alw u h k, ()) := by
  have hin : gridmarketref24_In.f N u.2.2.2.2.2.2.2.2.2.2.2.2.2.2.2.2.2.2.1 h = some (decide (h ∈ away u), ()) := by
    have := in_loop N h (away u) ha (N - (away u).length - 1) 0 (by omega)
    rw [show N - (away u).length - 1 + ((away u).length - 0) + 1 = N by omega, List.drop_zero] at this
    exact this
  unfold gridmarketref24_Allowed.f alw
  rw [hin]
  simp only [Option.bind_some]
  by_cases k0 : k = 0
  · simp [k0]
  · by_cases k1 : k = 1
    · simp [k1]
    · by_cases k2 : k = 2
      · simp [k2]
      · simp [k0, k1, k2]

theorem stp_of {u : U0} {s t : Int × Int} {h : Int} (ht : t ∈ nxt u s) (ha : alw u h t.1 = true) : stp u s h t.1 = some t := by
  unfold stp
  rw [if_pos ha]
  revert ht
  unfold nxt
  repeat' split
  all_goals intro ht
  all_goals simp only [List.mem_cons, List.not_mem_nil, or_false] at ht
  all_goals first
    | exact ht.elim
    | (subst ht; simp)
    | (rcases ht with ht | ht <;> subst ht <;> simp)

theorem choose_l9 (N : Nat) (hN : 1100 < N) (K : Int → List Int → Int → U0 → (Int × Int) → List Int → List (Int × Int) → Option (List Int × Unit)) (x1 : Int) (x2 : List Int) (h : Int) (u : U0) (ha : (away u).length ≤ 1000) (s : Int × Int) (acc : List Int) (nx : List (Int × Int)) (hn : nx.length ≤ 100) :
    ∀ (m i : Nat) (can : List (Int × Int)), i ≤ nx.length → can.length ≤ i → (∀ t ∈ can, t ∈ nx ∧ alw u h t.1 = true) →
    ∃ can', can'.length ≤ nx.length ∧ (∀ t ∈ can', t ∈ nx ∧ alw u h t.1 = true) ∧ gridmarketref24_Choose.l9 N K (m + (nx.length - i) + 1) x1 x2 h (i : Int) u s acc can nx = K x1 x2 h u s acc can'
  | m, i, can, hi, hc, hall => by
    have e : gridmarketref24_Choose.l9 N K (m + (nx.length - i) + 1) x1 x2 h (i : Int) u s acc can nx = gridmarketref24_Choose.p9 N K (gridmarketref24_Choose.l9 N K (m + (nx.length - i))) x1 x2 h (i : Int) u s acc can nx := rfl
    rw [e]
    unfold gridmarketref24_Choose.p9 gridmarketref24_Choose.q10
    by_cases hl : i = nx.length
    · subst hl
      rw [if_neg (by simp)]
      exact ⟨can, hc, hall, rfl⟩
    · have hi' : i < nx.length := by omega
      have hg : nx.getD i (0, 0) = nx[i] := by rw [List.getD_eq_getElem?_getD, List.getElem?_eq_getElem hi']; rfl
      rw [if_pos (decide_eq_true (by omega)), if_pos (by omega), Int.toNat_natCast, hg, rallowed_ok hN u ha]
      simp only [Option.bind_some]
      have w : IntKind.wrap .i64 ((i : Int) + 1) = ((i + 1 : Nat) : Int) := by rw [wrap_i64 (by omega) (by omega)]; rfl
      rw [w]
      cases hA : alw u h nx[i].1 with
      | true =>
        rw [if_pos rfl, if_pos (by omega), if_pos (by simp only [List.length_singleton]; omega), show m + (nx.length - i) = m + (nx.length - (i + 1)) + 1 by omega]
        refine choose_l9 N hN K x1 x2 h u ha s acc nx hn m (i + 1) _ (by omega) (by simp; omega) fun t ht => ?_
        rcases List.mem_append.1 ht with ht | ht
        · exact hall t ht
        · rw [List.mem_singleton.1 ht]
          exact ⟨List.getElem_mem hi', hA⟩
      | false =>
        rw [if_neg (by simp), show m + (nx.length - i) = m + (nx.length - (i + 1)) + 1 by omega]
        exact choose_l9 N hN K x1 x2 h u ha s acc nx hn m (i + 1) can (by omega) (by omega) hall
  termination_by m i => nx.length - i

theorem choose_l4 (N : Nat) (hN : 1200 < N) (u : U0) (hs : snd u) (ha : (away u).length ≤ 1000) (raw : List Int) (hr : raw.length ≤ 100) : ∀ (m i : Nat) (s : Int × Int) (acc : List Int), i ≤ raw.length → acc.length ≤ i →
    ∃ ks : List Int, ks.length ≤ raw.length - i ∧ (∃ l, wlk u i s ks = .inr l) ∧ gridmarketref24_Choose.l4 N (fun yr7 => some (yr7, ())) (m + (raw.length - i) + 1) (raw.length : Int) raw (i : Int) u s acc = some (acc ++ ks, ())
  | m, i, s, acc, hi, hacc => by
    have e : gridmarketref24_Choose.l4 N (fun yr7 => some (yr7, ())) (m + (raw.length - i) + 1) (raw.length : Int) raw (i : Int) u s acc = gridmarketref24_Choose.p4 N (fun yr7 => some (yr7, ())) (gridmarketref24_Choose.l4 N (fun yr7 => some (yr7, ())) (m + (raw.length - i))) (raw.length : Int) raw (i : Int) u s acc := rfl
    rw [e]
    unfold gridmarketref24_Choose.p4
    by_cases hl : i = raw.length
    · subst hl
      rw [if_neg (by simp)]
      exact ⟨[], by simp, ⟨[], rfl⟩, by simp⟩
    · have hi' : i < raw.length := by omega
      rw [if_pos (decide_eq_true (by omega)), rsound_ok, rnext_ok (by omega)]
      simp only [Option.bind_some, hs, decide_true, if_true]
      have hnl := nxt_len u s
      obtain ⟨can, hcl, hcan, e9⟩ := choose_l9 N (by omega) (fun y1_81 y2_81 y9_81 yo3_81 yo8_81 yr7_81 yr10_81 => if decide ((yr10_81.length : Int) = 0) then (some (yr7_81, ())) else (if decide (y9_81 < (y2_81.length : Int)) then (if (0 : Int) ≤ y9_81 ∧ y9_81 < (y2_81.length : Int) then (if (yr10_81.length : Int) = 0 then none else (if (yr10_81.length : Int) = 0 then none else (gridmarketref24_Choose.q18 N (fun y1_82 y2_82 y9_82 yo3_82 yo8_82 yr7_82 => gridmarketref24_Choose.q5 N (fun y1_83 y2_83 y9_83 yo3_83 yo8_83 yr7_83 => gridmarketref24_Choose.l4 N (fun yr7 => some (yr7, ())) (m + (raw.length - i)) y1_83 y2_83 y9_83 yo3_83 yo8_83 yr7_83) y1_82 y2_82 y9_82 yo3_82 yo8_82 yr7_82) y1_81 y2_81 y9_81 (Int.tmod (IntKind.wrap .i64 ((Int.tmod (y2_81.getD ((y9_81 : Int).toNat) (0 : Int)) (yr10_81.length : Int)) + (yr10_81.length : Int))) (yr10_81.length : Int)) yo3_81 yo8_81 yr7_81 yr10_81))) else none) else (gridmarketref24_Choose.q18 N (fun y1_84 y2_84 y9_84 yo3_84 yo8_84 yr7_84 => gridmarketref24_Choose.q5 N (fun y1_85 y2_85 y9_85 yo3_85 yo8_85 yr7_85 => gridmarketref24_Choose.l4 N (fun yr7 => some (yr7, ())) (m + (raw.length - i)) y1_85 y2_85 y9_85 yo3_85 yo8_85 yr7_85) y1_84 y2_84 y9_84 yo3_84 yo8_84 yr7_84) y1_81 y2_81 y9_81 0 yo3_81 yo8_81 yr7_81 yr10_81)))
        (raw.length : Int) raw (i : Int) u ha s acc (nxt u s) (by omega) (N - (nxt u s).length - 1) 0 [] (by omega) (by simp) (by simp)
      rw [show N - (nxt u s).length - 1 + ((nxt u s).length - 0) + 1 = N by omega] at e9
      by_cases h0 : can.length = 0
      · refine ⟨[], by simp, ⟨[], rfl⟩, e9.trans ?_⟩
        rw [if_pos (by rw [decide_eq_true_eq]; omega)]
        simp
      · obtain ⟨x, hx, hx0, hx1⟩ : ∃ x : Int, Int.tmod (IntKind.wrap .i64 (Int.tmod (raw.getD ((i : Int)).toNat 0) (can.length : Int) + (can.length : Int))) (can.length : Int) = x ∧ 0 ≤ x ∧ x < (can.length : Int) := by
          refine ⟨_, rfl, ?_, Int.tmod_lt_of_pos _ (by omega)⟩
          have a1 := Int.tmod_lt_of_pos (raw.getD ((i : Int)).toNat 0) (b := (can.length : Int)) (by omega)
          have a2 := Int.tmod_lt_of_pos (-(raw.getD ((i : Int)).toNat 0)) (b := (can.length : Int)) (by omega)
          rw [Int.neg_tmod] at a2
          rw [wrap_i64 (by omega) (by omega)]
          exact Int.tmod_nonneg _ (by omega)
        obtain ⟨x, rfl⟩ := Int.eq_ofNat_of_zero_le hx0
        have hxl : x < can.length := by omega
        have hg : can.getD x (0, 0) = can[x] := by rw [List.getD_eq_getElem?_getD, List.getElem?_eq_getElem hxl]; rfl
        obtain ⟨hm, hA⟩ := hcan _ (List.getElem_mem hxl)
        obtain ⟨ks, hk1, ⟨l, hk2⟩, hk3⟩ := choose_l4 N hN u hs ha raw hr m (i + 1) can[x] (acc ++ [can[x].1]) (by omega) (by simp; omega)
        refine ⟨can[x].1 :: ks, by simp; omega, ⟨can[x] :: l, ?_⟩, e9.trans ?_⟩
        · simp only [wlk, stp_of hm hA, hk2]
        · rw [if_neg (by rw [decide_eq_true_eq]; omega), if_pos (decide_eq_true (by omega)), if_pos (by omega), if_neg (by omega), if_neg (by omega), hx]
          unfold gridmarketref24_Choose.q18 gridmarketref24_Choose.q5
          rw [if_pos (by omega), Int.toNat_natCast, hg, if_pos (by simp only [List.length_singleton]; omega)]
          show gridmarketref24_Choose.l4 N (fun yr7 => some (yr7, ())) (m + (raw.length - i)) (raw.length : Int) raw (IntKind.wrap .i64 ((i : Int) + 1)) u can[x] (acc ++ [can[x].1]) = _
          rw [wrap_i64 (by omega) (by omega), show (i : Int) + 1 = ((i + 1 : Nat) : Int) from rfl, show m + (raw.length - i) = m + (raw.length - (i + 1)) + 1 by omega, hk3]
          simp
  termination_by m i => raw.length - i
theorem choose_ok {N : Nat} (hN : 1400 < N) (u : U0) (hs : snd u) (ha : (away u).length ≤ 1000) (raw : List Int) (hr : raw.length ≤ 100) :
    ∃ ks : List Int, ks.length ≤ 100 ∧ (∃ l, wlk u 0 (init u) ks = .inr l) ∧ gridmarketref24_Choose.f N u (raw.length : Int) raw = some (ks, ()) := by
  unfold gridmarketref24_Choose.f
  rw [rinit_ok]
  simp only [Option.bind_some]
  obtain ⟨ks, h1, h2, h3⟩ := choose_l4 N (by omega) u hs ha raw hr (N - raw.length - 1) 0 (init u) [] (by omega) (by simp)
  rw [show N - raw.length - 1 + (raw.length - 0) + 1 = N by omega] at h3
  exact ⟨ks, by omega, h2, h3⟩
end Go.Proofs.Ytfmfgomijjibgaa.Abs.T
end

section
namespace Go.Proofs.Ytfmfgomijjibgaa.Abs.T
open Go.Proofs.Ytfmfgomijjibgaa.Abs.Ints

theorem charges_l11 (u : U0) (hs : snd u) (ks : List Int) (l : List (Int × Int)) (hk : ks.length ≤ 200) (hl : l.length = ks.length) : ∀ (m i : Nat) (s : Int × Int) (k r : Int), i ≤ ks.length → Run u s k r → r ≤ 100 + i → wlk u i s (ks.drop i) = .inr (l.drop i) →
    gridmarketlaw24_AutomatonCharges.l11 5000 (fun _ => some (true, ())) (m + (ks.length - i) + 1) (ks.length : Int) k r (i : Int) u s ks l = some (true, ())
  | m, i, s, k, r, hi, H, hr, hw => by
    have e : gridmarketlaw24_AutomatonCharges.l11 5000 (fun _ => some (true, ())) (m + (ks.length - i) + 1) (ks.length : Int) k r (i : Int) u s ks l = gridmarketlaw24_AutomatonCharges.p11 5000 (fun _ => some (true, ())) (gridmarketlaw24_AutomatonCharges.l11 5000 (fun _ => some (true, ())) (m + (ks.length - i))) (ks.length : Int) k r (i : Int) u s ks l := rfl
    rw [e]
    unfold gridmarketlaw24_AutomatonCharges.p11
    by_cases hil : i = ks.length
    · subst hil
      rw [if_neg (by simp)]
    · have hi' : i < ks.length := by omega
      have hi2 : i < l.length := by omega
      have hg : ks.getD (i : Int).toNat 0 = ks[i] := by rw [Int.toNat_natCast, List.getD_eq_getElem?_getD, List.getElem?_eq_getElem hi']; rfl
      have hg2 : l.getD (i : Int).toNat (0, 0) = l[i] := by rw [Int.toNat_natCast, List.getD_eq_getElem?_getD, List.getElem?_eq_getElem hi2]; rfl
      have c1 : (i : Int) < (ks.length : Int) := by omega
      have c2 : (0 : Int) ≤ (i : Int) ∧ (i : Int) < (ks.length : Int) := ⟨by omega, c1⟩
      have c3 : (0 : Int) ≤ (i : Int) ∧ (i : Int) < (l.length : Int) := ⟨by omega, by omega⟩
      rw [List.drop_eq_getElem_cons hi', List.drop_eq_getElem_cons hi2] at hw
      simp only [wlk] at hw
      split at hw
      · cases hw
      rename_i t hst
      split at hw
      · cases hw
      rename_i l' hw'
      have hw2 : t :: l' = l[i] :: l.drop (i + 1) := Sum.inr.inj hw
      obtain ⟨e1, e2⟩ := List.cons.inj hw2
      subst e1 e2
      obtain ⟨ht, htk⟩ := stp_some hst
      have hr1 : 1 ≤ r := H.2.2.1
      have w1 : IntKind.wrap .i64 (r + 1) = r + 1 := wrap_i64 (by omega) (by omega)
      have w2 : IntKind.wrap .i64 ((i : Int) + 1) = ((i + 1 : Nat) : Int) := by rw [wrap_i64 (by omega) (by omega)]; rfl
      have em : m + (ks.length - i) = m + (ks.length - (i + 1)) + 1 := by omega
      -- the cost
      have hcost : cost u s l[i] = if k = 0 ∧ ks[i] ≠ 0 then (if r ≤ hh u then hotc u else coldc u) else 0 := by
        unfold cost
        have hsk : s.1 = k := H.2.1
        rw [hsk, htk]
        by_cases hc : k = 0 ∧ ks[i] ≠ 0
        · rw [if_pos ⟨hc.1, hc.2, ht⟩, if_pos hc]
          have hcs : s.2 = min r (coff u) := by
            rcases H.2.2.2 with ⟨_, q⟩ | ⟨q, _⟩ | ⟨q, _⟩
            · exact q
            · omega
            · omega
          have hch : hh u + 1 ≤ coff u := by unfold coff; omega
          by_cases hrh : r ≤ hh u
          · rw [if_pos hrh, if_pos (by rw [hcs]; exact Int.le_trans (Int.min_le_left _ _) hrh)]
          · rw [if_neg hrh, if_neg (by
              rw [hcs]
              intro q
              rcases min_cases r (coff u) with ⟨q1, _⟩ | ⟨q1, _⟩ <;> omega)]
        · rw [if_neg (fun q => hc ⟨q.1, q.2.1⟩), if_neg hc]
      -- what follows the cost
      have next : ∀ (d : Int), cost u s l[i] = d → gridmarketlaw24_AutomatonCharges.q18 5000 (fun y7 y10 y11 y12 yo2 yo9 yr5 yr6 => gridmarketlaw24_AutomatonCharges.q12 5000 (fun y7 y10 y11 y12 yo2 yo9 yr5 yr6 => gridmarketlaw24_AutomatonCharges.l11 5000 (fun _ => some (true, ())) (m + (ks.length - i)) y7 y10 y11 y12 yo2 yo9 yr5 yr6) y7 y10 y11 y12 yo2 yo9 yr5 yr6) (ks.length : Int) k r (i : Int) d u s ks l = some (true, ()) := by
        intro d hd
        unfold gridmarketlaw24_AutomatonCharges.q18 gridmarketlaw24_AutomatonCharges.q23 gridmarketlaw24_AutomatonCharges.q12
        rw [if_pos c3, hg2, cost_ok (by omega), hd]
        simp only [Option.bind_some, decide_true, Bool.not_true, Bool.false_eq_true, if_false]
        rw [if_pos c2, hg]
        rcases run_step hs H ht with ⟨g1, g2, _⟩ | ⟨g1, g2, _⟩
        · have ek : ks[i] = k := by rw [← htk, g1]
          rw [if_neg (by rw [ek]; simp), if_pos c3, w1, w2, em]
          exact charges_l11 u hs ks l hk hl m (i + 1) l[i] k (r + 1) (by omega) g2 (by omega) hw'
        · rw [htk] at g1 g2
          rw [if_pos (by rw [decide_eq_false g1]; rfl), if_pos c2, if_pos c3, w2, em]
          exact charges_l11 u hs ks l hk hl m (i + 1) l[i] ks[i] 1 (by omega) g2 (by omega) hw'
      rw [if_pos (decide_eq_true c1)]
      unfold gridmarketlaw24_AutomatonCharges.q10000015
      by_cases k0 : k = 0
      · rw [if_pos (decide_eq_true k0), if_pos c2, hg]
        by_cases kn : ks[i] = 0
        · rw [decide_eq_true kn, if_neg (by simp)]
          exact next 0 (by rw [hcost, if_neg (fun q => q.2 kn)])
        · rw [decide_eq_false kn, if_pos (by rfl)]
          simp only [show u.2.2.2.2.2.2.2.2.2.2.2.2.2.2.2.1 = hh u from rfl, show u.2.2.2.2.2.2.2.2.2.2.2.2.2.1 = hotc u from rfl, show u.2.2.2.2.2.2.2.2.2.2.2.2.2.2.1 = coldc u from rfl]
          by_cases hrh : r ≤ hh u
          · rw [if_pos (decide_eq_true hrh)]
            exact next (hotc u) (by rw [hcost, if_pos ⟨k0, kn⟩, if_pos hrh])
          · rw [if_neg (by rw [decide_eq_true_eq]; exact hrh)]
            exact next (coldc u) (by rw [hcost, if_pos ⟨k0, kn⟩, if_neg hrh])
      · rw [if_neg (by rw [decide_eq_true_eq]; exact k0), if_neg (by simp)]
        exact next 0 (by rw [hcost, if_neg (fun q => k0 q.1)])
  termination_by m i => ks.length - i
end Go.Proofs.Ytfmfgomijjibgaa.Abs.T
end

section
namespace Go.Proofs.Ytfmfgomijjibgaa.Abs.T
open Go.Proofs.Ytfmfgomijjibgaa.Abs.Ints

noncomputable def ct (w : U0) (raw : List Int) : Option (Bool × Unit) := ((gridmarketref24_Choose.f 5000 w (raw.length : Int) raw).bind fun t3 => ((automaton_Walk.f 5000 w t3.1).bind fun t4 => ((gridmarketlaw24_awake.f 5000).bind fun t5 => (if !t5.1 then (gridmarketlaw24_AutomatonCharges.q10000008 5000 (fun y7_5 yo2_5 yr5_5 yr6_5 => gridmarketlaw24_AutomatonCharges.q9 5000 y7_5 yo2_5 yr5_5 yr6_5) t4.1 true w t3.1 t4.2.2.1) else (if !decide (t4.2.1 = 0) then (gridmarketlaw24_AutomatonCharges.q10000008 5000 (fun y7_49 yo2_49 yr5_49 yr6_49 => gridmarketlaw24_AutomatonCharges.q9 5000 y7_49 yo2_49 yr5_49 yr6_49) t4.1 true w t3.1 t4.2.2.1) else (if !decide (t4.1 = (t3.1.length : Int)) then (gridmarketlaw24_AutomatonCharges.q10000008 5000 (fun y7_50 yo2_50 yr5_50 yr6_50 => gridmarketlaw24_AutomatonCharges.q9 5000 y7_50 yo2_50 yr5_50 yr6_50) t4.1 true w t3.1 t4.2.2.1) else (gridmarketlaw24_AutomatonCharges.q10000008 5000 (fun y7_51 yo2_51 yr5_51 yr6_51 => gridmarketlaw24_AutomatonCharges.q9 5000 y7_51 yo2_51 yr5_51 yr6_51) t4.1 (!decide ((t4.2.2.1.length : Int) = t4.1)) w t3.1 t4.2.2.1)))))))
def less (v : U0) : U0 := (v.1, (v.2.1, (v.2.2.1, (v.2.2.2.1, (v.2.2.2.2.1, (v.2.2.2.2.2.1, (v.2.2.2.2.2.2.1, (v.2.2.2.2.2.2.2.1, (v.2.2.2.2.2.2.2.2.1, (v.2.2.2.2.2.2.2.2.2.1, (v.2.2.2.2.2.2.2.2.2.2.1, (v.2.2.2.2.2.2.2.2.2.2.2.1, (v.2.2.2.2.2.2.2.2.2.2.2.2.1, (Int.tmod v.2.2.2.2.2.2.2.2.2.2.2.2.2.1 1000, (Int.tmod v.2.2.2.2.2.2.2.2.2.2.2.2.2.2.1 1000, v.2.2.2.2.2.2.2.2.2.2.2.2.2.2.2)))))))))))))))
theorem q3_ct (raw : List Int) (u : U0) : gridmarketlaw24_AutomatonCharges.q3 5000 raw u = (gridmarketref24_Near.f 5000 u).bind fun t2 => ct (less t2.1) raw := rfl
theorem ct_ok (w : U0) (hs : snd w) (ha : (away w).length ≤ 1000) (raw : List Int) (hr : raw.length ≤ 100) : ct w raw = some (true, ()) := by
  obtain ⟨ks, hk, ⟨l, hw⟩, hc⟩ := choose_ok (N := 5000) (by omega) w hs ha raw hr
  have hl := wlk_inr hw
  unfold ct
  rw [hc]
  simp only [Option.bind_some]
  rw [walk_ok (by omega) w hs ha ks (by omega), hw, awake24]
  simp only [Option.bind_some, Bool.not_true, Bool.false_eq_true, if_false]
  rw [if_neg (by simp), if_neg (by simp)]
  unfold gridmarketlaw24_AutomatonCharges.q10000008
  rw [if_neg (by rw [hl]; simp)]
  show gridmarketlaw24_AutomatonCharges.q9 5000 (ks.length : Int) w ks l = _
  unfold gridmarketlaw24_AutomatonCharges.q9
  rw [init_ok (by omega)]
  simp only [Option.bind_some]
  have hh6 := hs.2.2.2.2.2.1
  have := charges_l11 w hs ks l (by omega) hl (4999 - ks.length) 0 (init w) (kind w) (hours w) (by omega) (run_init hs) (by omega) (by rw [List.drop_zero, List.drop_zero]; exact hw)
  rw [show 4999 - ks.length + (ks.length - 0) + 1 = 5000 by omega] at this
  exact this
theorem snd_mk (a0 : List UInt8) (a1 : Int) (a2 : Int) (a3 : Int) (a4 : List (Int × Int)) (a5 : Int) (a6 : Int) (a7 : Int) (a8 : Int) (a9 : Int) (a10 : Int) (a11 : Int) (a12 : Int) (a13 : Int) (a14 : Int) (a15 : Int) (a16 : Int) (a17 : Int) (a18 : List Int) (a19 : Int) (a20 : Int) (a21 : Int) (h : (0 ≤ a10 ∧ a10 ≤ 24) ∧ (0 ≤ a11 ∧ a11 ≤ 24) ∧ (0 ≤ a12 ∧ a12 ≤ 24) ∧ (0 ≤ a15 ∧ a15 ≤ 24) ∧ (0 ≤ a19 ∧ a19 ≤ 2) ∧ (1 ≤ a20 ∧ a20 ≤ 48) ∧ (a19 = 1 → a20 ≤ a12)) : snd (a0, a1, a2, a3, a4, a5, a6, a7, a8, a9, a10, a11, a12, a13, a14, a15, a16, a17, a18, a19, a20, a21) := h
theorem away_mk (a0 : List UInt8) (a1 : Int) (a2 : Int) (a3 : Int) (a4 : List (Int × Int)) (a5 : Int) (a6 : Int) (a7 : Int) (a8 : Int) (a9 : Int) (a10 : Int) (a11 : Int) (a12 : Int) (a13 : Int) (a14 : Int) (a15 : Int) (a16 : Int) (a17 : Int) (a18 : List Int) (a19 : Int) (a20 : Int) (a21 : Int) (h : a18.length ≤ 1000) : (away (a0, a1, a2, a3, a4, a5, a6, a7, a8, a9, a10, a11, a12, a13, a14, a15, a16, a17, a18, a19, a20, a21)).length ≤ 1000 := h
theorem less_ok (v : U0) (hs : snd v) (ha : (away v).length ≤ 1000) : snd (less v) ∧ (away (less v)).length ≤ 1000 :=
  ⟨snd_mk v.1 v.2.1 v.2.2.1 v.2.2.2.1 v.2.2.2.2.1 v.2.2.2.2.2.1 v.2.2.2.2.2.2.1 v.2.2.2.2.2.2.2.1 v.2.2.2.2.2.2.2.2.1 v.2.2.2.2.2.2.2.2.2.1 v.2.2.2.2.2.2.2.2.2.2.1 v.2.2.2.2.2.2.2.2.2.2.2.1 v.2.2.2.2.2.2.2.2.2.2.2.2.1 (Int.tmod v.2.2.2.2.2.2.2.2.2.2.2.2.2.1 1000) (Int.tmod v.2.2.2.2.2.2.2.2.2.2.2.2.2.2.1 1000) v.2.2.2.2.2.2.2.2.2.2.2.2.2.2.2.1 v.2.2.2.2.2.2.2.2.2.2.2.2.2.2.2.2.1 v.2.2.2.2.2.2.2.2.2.2.2.2.2.2.2.2.2.1 v.2.2.2.2.2.2.2.2.2.2.2.2.2.2.2.2.2.2.1 v.2.2.2.2.2.2.2.2.2.2.2.2.2.2.2.2.2.2.2.1 v.2.2.2.2.2.2.2.2.2.2.2.2.2.2.2.2.2.2.2.2.1 v.2.2.2.2.2.2.2.2.2.2.2.2.2.2.2.2.2.2.2.2.2 hs, away_mk v.1 v.2.1 v.2.2.1 v.2.2.2.1 v.2.2.2.2.1 v.2.2.2.2.2.1 v.2.2.2.2.2.2.1 v.2.2.2.2.2.2.2.1 v.2.2.2.2.2.2.2.2.1 v.2.2.2.2.2.2.2.2.2.1 v.2.2.2.2.2.2.2.2.2.2.1 v.2.2.2.2.2.2.2.2.2.2.2.1 v.2.2.2.2.2.2.2.2.2.2.2.2.1 (Int.tmod v.2.2.2.2.2.2.2.2.2.2.2.2.2.1 1000) (Int.tmod v.2.2.2.2.2.2.2.2.2.2.2.2.2.2.1 1000) v.2.2.2.2.2.2.2.2.2.2.2.2.2.2.2.1 v.2.2.2.2.2.2.2.2.2.2.2.2.2.2.2.2.1 v.2.2.2.2.2.2.2.2.2.2.2.2.2.2.2.2.2.1 v.2.2.2.2.2.2.2.2.2.2.2.2.2.2.2.2.2.2.1 v.2.2.2.2.2.2.2.2.2.2.2.2.2.2.2.2.2.2.2.1 v.2.2.2.2.2.2.2.2.2.2.2.2.2.2.2.2.2.2.2.2.1 v.2.2.2.2.2.2.2.2.2.2.2.2.2.2.2.2.2.2.2.2.2 ha⟩
theorem law_charges (u : U0) (raw : List Int) : gridmarketlaw24_AutomatonCharges.f 5000 u raw = some (true, ()) := by
  unfold gridmarketlaw24_AutomatonCharges.f gridmarketlaw24_AutomatonCharges.q10000002
  split
  · rfl
  by_cases hk : 24 < (raw.length : Int)
  · rw [if_pos (decide_eq_true hk)]
  rw [if_neg (by rw [decide_eq_true_eq]; exact hk)]
  show gridmarketlaw24_AutomatonCharges.q3 5000 raw u = _
  rw [q3_ct]
  obtain ⟨v, hv, hn⟩ := near_ok (N := 5000) (by omega) u
  rw [hv]
  have hs := hn.sound
  have ha := hn.away
  obtain ⟨h1, h2⟩ := less_ok v hs (by omega)
  exact ct_ok (less v) h1 h2 raw (by omega)
theorem plainAutomatonCharges (z : slotsX Unit (gridmarketlaw24_AutomatonCharges.F 0).din.slots) (h : argsGood (gridmarketlaw24_AutomatonCharges.F 0).din.slots z) : ∃ N, (gridmarketlaw24_AutomatonCharges.F N).run z = some (true, ()) :=
  ⟨5000, law_charges z.1 z.2.1⟩
end Go.Proofs.Ytfmfgomijjibgaa.Abs.T
end
