import Derived.Lib.OthersKept
import Derived.Test.YtkadllkeekoopaaGreatAbsB
set_option linter.unusedVariables false
set_option linter.unusedSimpArgs false
section
namespace Go.Proofs.YtkadllkeekoopaaGreat.Abs
open Go.RowKit

section
variable {fr : Fr} {σ : Nat → Value} {s : St} {a : Act} {w : World}

/-! ## Objects that are handed over for good -/
def avoid (fr : Fr) (H : Nat → Prop) : Fr := { fr with FA := fun b => fr.FA b ∧ ¬ H b, new := fun b => fr.new b ∧ ¬ H b }
def lost (σ : Nat → Value) (T : Tab) (id b : Nat) : Prop := ∃ o, get T id = some o ∧ blk (σ id) = some b
theorem RelS.dropO (R : RelS fr σ s a w) (id : Nat) : RelS (avoid fr (lost σ s.T id)) σ (Go.Proofs.YtkadllkeekoopaaGreat.Abs.dropO id s) a w := by
  have hget : ∀ i, get (Go.Proofs.YtkadllkeekoopaaGreat.Abs.dropO id s).T i = if id = i then none else (get s.T i).map (mapO (purgeC id)) := fun i => by
    simp only [Go.Proofs.YtkadllkeekoopaaGreat.Abs.dropO, get_mapT, get_del]
    by_cases e : id = i <;> simp [e]
  have old : ∀ i o1, get (Go.Proofs.YtkadllkeekoopaaGreat.Abs.dropO id s).T i = some o1 → id ≠ i ∧ ∃ o2, get s.T i = some o2 ∧ o1 = mapO (purgeC id) o2 := fun i o1 hi => by
    rw [hget] at hi
    split at hi
    · cases hi
    · rename_i e
      cases hi' : get s.T i with
      | none => rw [hi'] at hi; cases hi
      | some o2 =>
        rw [hi'] at hi
        simp at hi
        exact ⟨e, o2, rfl, hi.symm⟩
  have hfoot : ∀ al b, Foot fr σ s.T w al b → Foot (avoid fr (lost σ s.T id)) σ (Go.Proofs.YtkadllkeekoopaaGreat.Abs.dropO id s).T w al b ∧ w.heap[b]? = w.heap[b]? := fun al b hf => by
    have hl : ¬ lost σ s.T id b := fun ⟨o, ho, hb⟩ => hf.2.1 ⟨id, o, ho, hb⟩
    refine ⟨⟨hf.1, fun ⟨i, o1, hi, hb⟩ => ?_, hf.2.2.imp (fun h => ⟨h, hl⟩) (fun h => ⟨h.1, h.2, hl⟩)⟩, rfl⟩
    obtain ⟨_, o2, h2, _⟩ := old i o1 hi
    exact hf.2.1 ⟨i, o2, h2, hb⟩
  have hkeep : ∀ i o1, i ≠ id → get s.T i = some o1 → ∃ o2, get (Go.Proofs.YtkadllkeekoopaaGreat.Abs.dropO id s).T i = some o2 ∧ σ i = σ i ∧ okind o2 = okind o1 := fun i o1 hi h =>
    ⟨mapO (purgeC id) o1, by rw [hget, if_neg (Ne.symm hi), h]; rfl, rfl, by cases o1 <;> rfl⟩
  have hm : Mv fr (avoid fr (lost σ s.T id)) σ s.T w σ (Go.Proofs.YtkadllkeekoopaaGreat.Abs.dropO id s).T w (purgeC id) (fun i => !Nat.beq i id) _root_.id :=
    ⟨hfoot, purge_cr R hfoot hkeep, fun i o1 h hi => hkeep i o1 (fun e => by subst e; simp at hi) h⟩
  refine ⟨⟨R.kept.os, R.kept.tape, R.kept.output, R.kept.size, R.kept.block, fun k hk => ⟨R.kept.fresh k hk, fun ⟨o, ho, hb⟩ => ?_⟩, fun k hk => R.kept.nmb k hk.1⟩, fun b hb => R.fa b hb.1, ?_, ?_, fun i v hi => ?_, R.tmps, R.small, R.defers⟩
  · have := ((R.objs id o ho).lt k hb).2
    omega
  · intro i o1 j o2 hi hj hij
    obtain ⟨_, p, hp, _⟩ := old i o1 hi
    obtain ⟨_, q, hq, _⟩ := old j o2 hj
    exact R.dist i p j q hp hq hij
  · intro i o1 hi
    obtain ⟨e, p, hp, rfl⟩ := old i o1 hi
    exact hm.or2 (R.objs i p hp) rfl (fun b hb h => ⟨h, fun ⟨o, ho, hb'⟩ => R.dist id o i p ho hp e b hb' hb⟩) fun _ _ => rfl
  · have hi' : get (mapE (purgeC id) (fun i => !Nat.beq i id) s.env) i = some v := hi
    rw [get_mapE] at hi'
    cases hv : get s.env i with
    | none => rw [hv] at hi'; cases hi'
    | some v0 =>
      rw [hv] at hi'
      simp at hi'
      subst hi'
      exact hm.vr (R.env i v0 hv)
/-- What the frame is behind several such. -/
structure Less (fr frD : Fr) : Prop where
  P : frD.P = fr.P
  w0 : frD.w0 = fr.w0
  n : frD.n = fr.n
  gh : frD.gh = fr.gh
  mb : frD.MB = fr.MB
  new : ∀ b, frD.new b → fr.new b
  fa : ∀ b, frD.FA b → fr.FA b
theorem Less.refl (fr : Fr) : Less fr fr := ⟨rfl, rfl, rfl, rfl, rfl, fun _ h => h, fun _ h => h⟩
theorem Less.avoid {fr frD : Fr} {H : Nat → Prop} (h : Less (avoid fr H) frD) : Less fr frD := ⟨h.P, h.w0, h.n, h.gh, h.mb, fun b hb => (h.new b hb).1, fun b hb => (h.fa b hb).1⟩
theorem get_keys {α : Type} {l : List (Nat × α)} {i : Nat} : (get l i).isSome = true ↔ ∃ x, (i, x) ∈ l := by
  induction l with
  | nil => simp [get]
  | cons p r ih =>
    obtain ⟨j, y⟩ := p
    rw [get_cons]
    by_cases e : j = i
    · subst e
      simp only [if_true, Option.isSome_some, true_iff]
      exact ⟨y, List.mem_cons_self⟩
    · rw [if_neg e, ih]
      constructor
      · rintro ⟨x, hx⟩; exact ⟨x, List.mem_cons_of_mem _ hx⟩
      · rintro ⟨x, hx⟩
        cases hx with
        | head => exact absurd rfl e
        | tail _ hx => exact ⟨x, hx⟩
theorem RelS.dropAll {gb : List Nat} : ∀ (l : List (Nat × OSh)) {fr : Fr} {s : St}, RelS fr σ s a w → ∃ frD, Less fr frD ∧ RelS frD σ (dropAll gb l s) a w ∧
    (∀ id, (get l id).isSome = true → has gb id = false → (∀ o b, get s.T id = some o → blk (σ id) = some b → ¬ frD.new b ∧ ¬ frD.FA b) ∧ get (Go.Proofs.YtkadllkeekoopaaGreat.Abs.dropAll gb l s).T id = none) ∧
    (∀ id o, get (Go.Proofs.YtkadllkeekoopaaGreat.Abs.dropAll gb l s).T id = some o → ∃ o', get s.T id = some o' ∧ okind o' = okind o) ∧ (∀ id, ((get l id).isSome = false ∨ has gb id = true) → ∀ o, get s.T id = some o → ∃ o', get (Go.Proofs.YtkadllkeekoopaaGreat.Abs.dropAll gb l s).T id = some o' ∧ okind o' = okind o) ∧ (∀ al b, Foot fr σ s.T w al b → Foot frD σ (Go.Proofs.YtkadllkeekoopaaGreat.Abs.dropAll gb l s).T w al b)
  | [], fr, s, R => ⟨fr, .refl fr, R, fun id h => by simp [get] at h, fun id o h => ⟨o, h, rfl⟩, fun id _ o h => ⟨o, h, rfl⟩, fun _ _ h => h⟩
  | (i, x) :: l, fr, s, R => by
    simp only [Go.Proofs.YtkadllkeekoopaaGreat.Abs.dropAll]
    cases hg : has gb i with
    | true =>
      simp only [cond_true]
      obtain ⟨frD, h1, h2, h3, h4, h5, h6⟩ := RelS.dropAll l R
      refine ⟨frD, h1, h2, fun id hid hb => ?_, h4, fun id hid => h5 id (hid.imp (fun h => ?_) (fun h => h)), h6⟩
      · rw [get_cons] at hid
        split at hid
        · rename_i e; subst e; rw [hg] at hb; cases hb
        · exact h3 id hid hb
      · rw [get_cons] at h
        split at h
        · cases h
        · exact h
    | false =>
      simp only [cond_false]
      have hget : ∀ k, get (Go.Proofs.YtkadllkeekoopaaGreat.Abs.dropO i s).T k = if i = k then none else (get s.T k).map (mapO (purgeC i)) := fun k => by
        simp only [Go.Proofs.YtkadllkeekoopaaGreat.Abs.dropO, get_mapT, get_del]
        by_cases e : i = k <;> simp [e]
      obtain ⟨frD, h1, h2, h3, h4, h5, h6⟩ := RelS.dropAll l (R.dropO i)
      have back : ∀ id o, get (Go.Proofs.YtkadllkeekoopaaGreat.Abs.dropO i s).T id = some o → ∃ o', get s.T id = some o' ∧ okind o' = okind o ∧ i ≠ id := fun id o ho => by
        rw [hget] at ho
        split at ho
        · cases ho
        · rename_i e
          cases h : get s.T id with
          | none => rw [h] at ho; cases ho
          | some o2 =>
            rw [h] at ho
            simp at ho
            subst ho
            exact ⟨o2, rfl, by cases o2 <;> rfl, e⟩
      have hfoot : ∀ al b, Foot fr σ s.T w al b → Foot (Go.Proofs.YtkadllkeekoopaaGreat.Abs.avoid fr (lost σ s.T i)) σ (Go.Proofs.YtkadllkeekoopaaGreat.Abs.dropO i s).T w al b := fun al b hf => by
        have hl : ¬ lost σ s.T i b := fun ⟨o, ho, hb⟩ => hf.2.1 ⟨i, o, ho, hb⟩
        refine ⟨hf.1, fun ⟨k, o1, hi, hb⟩ => ?_, hf.2.2.imp (fun h => ⟨h, hl⟩) (fun h => ⟨h.1, h.2, hl⟩)⟩
        obtain ⟨o2, h2, _⟩ := back k o1 hi
        exact hf.2.1 ⟨k, o2, h2, hb⟩
      refine ⟨frD, h1.avoid, h2, fun id hid hb => ?_, fun id o ho => ?_, fun id hid o ho => ?_, fun al b hf => h6 al b (hfoot al b hf)⟩
      · rw [get_cons] at hid
        by_cases e : i = id
        · subst e
          refine ⟨fun o b ho hbk => ⟨fun hn => (h1.new b hn).2 ⟨o, ho, hbk⟩, fun hn => (h1.fa b hn).2 ⟨o, ho, hbk⟩⟩, ?_⟩
          cases hn : get (Go.Proofs.YtkadllkeekoopaaGreat.Abs.dropAll gb l (Go.Proofs.YtkadllkeekoopaaGreat.Abs.dropO i s)).T i with
          | none => rfl
          | some o =>
            obtain ⟨o', ho', _⟩ := h4 i o hn
            obtain ⟨_, _, _, hne⟩ := back i o' ho'
            exact absurd rfl hne
        · rw [if_neg e] at hid
          obtain ⟨p1, p2⟩ := h3 id hid hb
          refine ⟨fun o b ho hbk => p1 (mapO (purgeC i) o) b (by rw [hget, if_neg e, ho]; rfl) hbk, p2⟩
      · obtain ⟨o', ho', hk⟩ := h4 id o ho
        obtain ⟨o2, h2, hk2, _⟩ := back id o' ho'
        exact ⟨o2, h2, hk2.trans hk⟩
      · have hne : i ≠ id := fun e => by
          subst e
          rcases hid with h | h
          · rw [get_cons, if_pos rfl] at h; cases h
          · rw [hg] at h; cases h
        obtain ⟨o', ho', hk⟩ := h5 id (hid.imp (fun h => by rw [get_cons, if_neg hne] at h; exact h) (fun h => h)) (mapO (purgeC i) o) (by rw [hget, if_neg hne, ho]; rfl)
        exact ⟨o', ho', hk.trans (by cases o <;> rfl)⟩

/-! ## What comes back joins what is there -/
theorem hN_gb {gb : List Nat} {b id : Nat} (h : has gb id = true) : hN gb b id = id := by simp [hN, h]
theorem hN_new {gb : List Nat} {b id : Nat} (h : has gb id = false) : hN gb b id = b + id := by simp [hN, h]
theorem addObjs_spec {al : Bool} {gb : List Nat} {b : Nat} : ∀ {L : Tab} {s s' : St}, addObjs al gb b L s = some s' → (∀ i, has gb i = true → (get L i).isSome = true → ∃ o, get s.T i = some o) →
    s'.env = s.env ∧
    (∀ k o', get s'.T k = some o' → (get s.T k = some o' ∧ ¬ (has gb k = true ∧ (get L k).isSome = true)) ∨ (has gb k = true ∧ ∃ o, get L k = some o ∧ o' = fixO al gb b o) ∨ (∃ id o, has gb id = false ∧ get L id = some o ∧ k = b + id ∧ o' = fixO al gb b o ∧ get s.T k = none)) ∧
    (∀ id o, get L id = some o → get s'.T (hN gb b id) = some (fixO al gb b o)) ∧
    (∀ k o, get s.T k = some o → (has gb k = true ∧ (get L k).isSome = true) ∨ get s'.T k = some o) ∧
    (∀ id o, get L id = some o → has gb id = false → get s.T (b + id) = none)
  | [], s, s', h, _ => by
    cases h
    exact ⟨rfl, fun k o' h => .inl ⟨h, fun h => by simp [get] at h⟩, fun id o (h : get [] id = some o) => by simp [get] at h, fun k o h => .inr h, fun id o (h : get [] id = some o) => by simp [get] at h⟩
  | (i, x) :: L, s, s', h, hp => by
    simp only [addObjs] at h
    split at h
    case h_2 => cases h
    rename_i s1 hs1
    have hp' : ∀ j, has gb j = true → (get L j).isSome = true → ∃ o, get s.T j = some o := fun j hj hs => hp j hj (by
      rw [get_cons]
      split
      · rfl
      · exact hs)
    obtain ⟨e1, e2, e3, e4, e5⟩ := addObjs_spec hs1 hp'
    cases hg : has gb i with
    | true =>
      rw [hg] at h
      simp only [cond_true, Option.some.injEq] at h
      subst h
      obtain ⟨oi, hoi⟩ := hp i hg (by rw [get_cons, if_pos rfl]; rfl)
      have hset : ∀ k, get (setO i (fixO al gb b x) s1).T k = if i = k then some (fixO al gb b x) else get s1.T k := fun k => by
        simp only [setO, get_cons, get_del]
        by_cases e : i = k <;> simp [e]
      refine ⟨e1, fun k o' hk => ?_, fun id o ho => ?_, fun k o hk => ?_, fun id o ho hn => ?_⟩
      · rw [hset] at hk
        by_cases e : i = k
        · subst e
          simp at hk
          exact .inr (.inl ⟨hg, x, by rw [get_cons, if_pos rfl], hk.symm⟩)
        · rw [if_neg e] at hk
          rcases e2 k o' hk with ⟨h1, h2⟩ | ⟨h1, o, h2, h3⟩ | ⟨id, o, h1, h2, h3, h4, h5⟩
          · exact .inl ⟨h1, fun h => h2 ⟨h.1, by rw [get_cons, if_neg e] at h; exact h.2⟩⟩
          · exact .inr (.inl ⟨h1, o, by rw [get_cons, if_neg e]; exact h2, h3⟩)
          · have hne : i ≠ id := fun e => by subst e; rw [hg] at h1; cases h1
            exact .inr (.inr ⟨id, o, h1, by rw [get_cons, if_neg hne]; exact h2, h3, h4, h5⟩)
      · rw [hset]
        rw [get_cons] at ho
        by_cases e : i = id
        · subst e
          simp at ho
          subst ho
          rw [hN_gb hg, if_pos rfl]
        · rw [if_neg e] at ho
          have hne : i ≠ hN gb b id := fun e' => by
            cases hgi : has gb id with
            | true => rw [hN_gb hgi] at e'; exact e e'
            | false =>
              have := e5 id o ho hgi
              rw [hN_new hgi] at e'
              rw [← e', hoi] at this
              cases this
          rw [if_neg hne]
          exact e3 id o ho
      · by_cases e : i = k
        · subst e
          exact .inl ⟨hg, by rw [get_cons, if_pos rfl]; rfl⟩
        · rcases e4 k o hk with h1 | h1
          · exact .inl ⟨h1.1, by rw [get_cons, if_neg e]; exact h1.2⟩
          · exact .inr (by rw [hset, if_neg e]; exact h1)
      · have hne : i ≠ id := fun e => by subst e; rw [hg] at hn; cases hn
        rw [get_cons, if_neg hne] at ho
        exact e5 id o ho hn
    | false =>
      rw [hg] at h
      simp only [cond_false] at h
      obtain ⟨hfree, rfl⟩ := newO_some h
      have hfree0 : get s.T (b + i) = none := by
        cases hs : get s.T (b + i) with
        | none => rfl
        | some o =>
          rcases e4 _ o hs with ⟨h1, h2⟩ | h1
          · cases hLi : get L (b + i) with
            | none => rw [hLi] at h2; cases h2
            | some o2 =>
              have := e3 _ o2 hLi
              rw [hN_gb h1, hfree] at this
              cases this
          · rw [hfree] at h1
            cases h1
      refine ⟨e1, fun k o' hk => ?_, fun id o ho => ?_, fun k o hk => ?_, fun id o ho hn => ?_⟩
      · rw [get_cons] at hk
        by_cases e : b + i = k
        · subst e
          simp at hk
          exact .inr (.inr ⟨i, x, hg, by rw [get_cons, if_pos rfl], rfl, hk.symm, hfree0⟩)
        · rw [if_neg e] at hk
          have hgk : ∀ {p : Prop}, has gb k = true → (i = k → p) := fun h e' => by rw [← e', hg] at h; cases h
          rcases e2 k o' hk with ⟨h1, h2⟩ | ⟨h1, o, h2, h3⟩ | ⟨id, o, h1, h2, h3, h4, h5⟩
          · exact .inl ⟨h1, fun h => h2 ⟨h.1, by
              have := h.2
              rw [get_cons] at this
              split at this
              · rename_i e'
                exact hgk h.1 e'
              · exact this⟩⟩
          · exact .inr (.inl ⟨h1, o, by rw [get_cons, if_neg (fun e' => hgk h1 e')]; exact h2, h3⟩)
          · have hne : i ≠ id := fun e' => e (by rw [e', h3])
            exact .inr (.inr ⟨id, o, h1, by rw [get_cons, if_neg hne]; exact h2, h3, h4, h5⟩)
      · rw [get_cons] at ho ⊢
        by_cases e : i = id
        · subst e
          simp at ho
          subst ho
          rw [hN_new hg, if_pos rfl]
        · rw [if_neg e] at ho
          have := e3 id o ho
          have hne : b + i ≠ hN gb b id := fun e' => by rw [← e', hfree] at this; cases this
          rw [if_neg hne]
          exact this
      · rcases e4 k o hk with h1 | h1
        · refine .inl ⟨h1.1, ?_⟩
          rw [get_cons]
          split
          · rfl
          · exact h1.2
        · refine .inr ?_
          have hne : b + i ≠ k := fun e' => by rw [← e', hfree] at h1; cases h1
          rw [get_cons, if_neg hne]
          exact h1
      · rw [get_cons] at ho
        by_cases e : i = id
        · subst e
          exact hfree0
        · rw [if_neg e] at ho
          exact e5 id o ho hn

noncomputable def cFlag : C → Bool
  | .sl al _ _ => al
  | _ => false
def oFlag : Obj → Prop
  | .row _ al _ _ => al = true
  | .box _ cs => ∃ c ∈ cs, cFlag c = true
  | _ => False

theorem merge {frD fro : Fr} {σo : Nat → Value} {so s' : St} {ao : Act} {w' : World} {gb : List Nat} {b0 : Nat} {ha al : Bool} (R : RelS frD σ s a w) (Ro : RelS fro σo so ao w') (hw : fro.w0 = w) (hL : Less fr frD) (hfrfa : ∀ b, fr.FA b → b < fr.w0.heap.size) (hnmb : ∀ k, fr.new k → fr.w0.heap.size ≤ k ∨ fr.MB k)
    (hmb : ∀ b, fro.MB b → fr.new b ∧ b < w.heap.size ∧ ((∃ i o, has gb i = true ∧ get s.T i = some o ∧ blk (σ i) = some b) ∨ (¬ frD.new b ∧ ¬ frD.FA b)))
    (hmn : ∀ b, fro.MB b → fro.new b) (hmb2 : ∀ b i o, fro.MB b → get s.T i = some o → blk (σ i) = some b → has gb i = true)
    (hgb : ∀ i o, has gb i = true → get so.T i = some o → ∃ o', get s.T i = some o' ∧ okind o' = okind o ∧ σo i = σ i)
    (hgs : ∀ i o, has gb i = true → get s.T i = some o → ∃ o', get so.T i = some o')
    (hfl : ∀ id o, get so.T id = some o → oFlag o → ha = true) (hFA : ha = true → ∀ b, fro.FA b → Foot frD σ s.T w al b ∨ fro.MB b) (hadd : addObjs al gb b0 so.T s = some s') :
    ∃ σ2, RelS fr σ2 s' a w' ∧ (∀ c u, (cFlag c = true → ha = true) → CR fro σo so.T w' c u → CR fr σ2 s'.T w' (fixC al gb b0 c) u) ∧ ∀ id off u, VR fro σo so.T w' (.pt id off) u → VR fr σ2 s'.T w' (.pt (hN gb b0 id) off) u := by
  obtain ⟨e1, e2, e3, e4, e5⟩ := addObjs_spec hadd (fun i hi hs => by
    cases ho : get so.T i with
    | none => rw [ho] at hs; cases hs
    | some o =>
      obtain ⟨o', h, _⟩ := hgb i o hi ho
      exact ⟨o', h⟩)
  let σ2 : Nat → Value := fun k => if (get s.T k).isSome = true then σ k else σo (k - b0)
  have hσold : ∀ k o, get s.T k = some o → σ2 k = σ k := fun k o h => by simp only [σ2, h, Option.isSome_some, if_true]
  have hσnew : ∀ id o, get so.T id = some o → σ2 (hN gb b0 id) = σo id := fun id o ho => by
    cases hg : has gb id with
    | true =>
      obtain ⟨o', h, _, he⟩ := hgb id o hg ho
      rw [hN_gb hg, hσold id o' h, he]
    | false =>
      have := e5 id o ho hg
      rw [hN_new hg]
      simp only [σ2, this, Option.isSome_none, Bool.false_eq_true, if_false, Nat.add_sub_cancel_left]
  have hsize : w.heap.size ≤ w'.heap.size := by have := Ro.kept.size; rwa [hw] at this
  have hsame : ∀ b, b < w.heap.size → ¬ fro.MB b → w'.heap[b]? = w.heap[b]? := fun b hb hm => by
    have := Ro.kept.block b (by rw [hw]; exact hb) hm
    rwa [hw] at this
  have honew : ∀ b, fro.new b → w.heap.size ≤ b ∨ fro.MB b := fun b hb => by have := Ro.kept.nmb b hb; rwa [hw] at this
  have hnewfr : ∀ b, fro.new b → fr.new b := fun b hb => (honew b hb).elim (fun h => hL.new b (R.kept.fresh b h)) (fun h => (hmb b h).1)
  -- whose an object is
  have cases2 : ∀ k o', get s'.T k = some o' → (get s.T k = some o' ∧ has gb k = false ∧ σ2 k = σ k) ∨ ∃ id o, get so.T id = some o ∧ k = hN gb b0 id ∧ o' = fixO al gb b0 o ∧ σ2 k = σo id := fun k o' hk => by
    rcases e2 k o' hk with ⟨h1, h2⟩ | ⟨h1, o, h2, h3⟩ | ⟨id, o, h1, h2, h3, h4, _⟩
    · refine .inl ⟨h1, ?_, hσold k o' h1⟩
      cases hg : has gb k with
      | false => rfl
      | true =>
        obtain ⟨o2, ho2⟩ := hgs k o' hg h1
        exact absurd ⟨hg, by rw [ho2]; rfl⟩ h2
    · exact .inr ⟨k, o, h2, (hN_gb h1).symm, h3, by have := hσnew k o h2; rwa [hN_gb h1] at this⟩
    · exact .inr ⟨id, o, h2, by rw [hN_new h1]; exact h3, h4, by have := hσnew id o h2; rw [hN_new h1, ← h3] at this; exact this⟩
  have hold : ∀ k o b, get s.T k = some o → has gb k = false → blk (σ k) = some b → b < w.heap.size ∧ ¬ fro.MB b := fun k o b hk hg hb => ⟨((R.objs k o hk).lt b hb).2, fun hm => by rw [hmb2 b k o hm hk hb] at hg; cases hg⟩
  have hso : ∀ id o b, get so.T id = some o → blk (σo id) = some b → (w.heap.size ≤ b ∨ fro.MB b) ∧ b < w'.heap.size := fun id o b ho hb => ⟨honew b ((Ro.objs id o ho).lt b hb).1, ((Ro.objs id o ho).lt b hb).2⟩
  have hown : ∀ b, Own σ2 s'.T b → (∃ k o, get s.T k = some o ∧ has gb k = false ∧ blk (σ k) = some b) ∨ ∃ id o, get so.T id = some o ∧ blk (σo id) = some b := by
    rintro b ⟨k, o', hk, hb⟩
    rcases cases2 k o' hk with ⟨h1, h2, h3⟩ | ⟨id, o, h1, _, _, h3⟩
    · rw [h3] at hb; exact .inl ⟨k, o', h1, h2, hb⟩
    · rw [h3] at hb; exact .inr ⟨id, o, h1, hb⟩
  have foot1 : ∀ al' b, Foot frD σ s.T w al' b → Foot fr σ2 s'.T w' al' b ∧ w'.heap[b]? = w.heap[b]? := fun al' b hf => by
    have hnm : ¬ fro.MB b := fun hm => by
      rcases (hmb b hm).2.2 with ⟨i, o, _, ho, hb⟩ | ⟨h1, h2⟩
      · exact hf.2.1 ⟨i, o, ho, hb⟩
      · rcases hf.2.2 with h | h
        · exact h1 h
        · exact h2 h.2
    refine ⟨⟨Nat.lt_of_lt_of_le hf.1 hsize, fun ho => ?_, hf.2.2.imp (hL.new b) (fun h => ⟨h.1, hL.fa b h.2⟩)⟩, hsame b hf.1 hnm⟩
    rcases hown b ho with ⟨k, o, h1, _, h2⟩ | ⟨id, o, h1, h2⟩
    · exact hf.2.1 ⟨k, o, h1, h2⟩
    · rcases (hso id o b h1 h2).1 with h | h
      · have := hf.1; omega
      · exact hnm h
  have foot2 : ∀ a0 b, (a0 = true → ha = true) → Foot fro σo so.T w' a0 b → Foot fr σ2 s'.T w' (a0 && al) b := fun a0 b hha hf => by
    have third : fro.new b ∨ (a0 = true ∧ fro.FA b) := hf.2.2
    have hcase : fro.new b ∨ (a0 = true ∧ Foot frD σ s.T w al b) := by
      rcases third with h | ⟨h1, h2⟩
      · exact .inl h
      · rcases hFA (hha h1) b h2 with h | h
        · exact .inr ⟨h1, h⟩
        · exact .inl (hmn b h)
    refine ⟨hf.1, fun ho => ?_, ?_⟩
    · rcases hown b ho with ⟨k, o, h1, h2, h3⟩ | h3
      · obtain ⟨p1, p2⟩ := hold k o b h1 h2 h3
        rcases hcase with h | ⟨_, h⟩
        · rcases honew b h with h | h
          · omega
          · exact p2 h
        · exact h.2.1 ⟨k, o, h1, h3⟩
      · exact hf.2.1 h3
    · rcases hcase with h | ⟨h0, h⟩
      · exact .inl (hnewfr b h)
      · rcases h.2.2 with h | ⟨h1, h2⟩
        · exact .inl (hL.new b h)
        · exact .inr ⟨by rw [h0, h1]; rfl, hL.fa b h2⟩
  have kindF : ∀ o, okind (fixO al gb b0 o) = okind o := fun o => by cases o <;> rfl
  have crF : ∀ c u, (cFlag c = true → ha = true) → CR fro σo so.T w' c u → CR fr σ2 s'.T w' (fixC al gb b0 c) u := fun c u hc h => by
    cases c with
    | int k n => exact h
    | bool b => exact h
    | str b => exact h
    | nil => exact h
    | undef => exact h
    | sl a0 t xs => exact KF.imp (fun b hb => ⟨foot2 a0 b hc hb, rfl⟩) (.sl t) xs [u] h
    | own id =>
      obtain ⟨rfl, o, ho⟩ := h
      exact ⟨(hσnew id o ho).symm, _, e3 id o ho⟩
    | view id lo len =>
      obtain ⟨o, A, n, cap, A', c', ho, h1, h2, h3, h4, h5, h6⟩ := h
      exact ⟨_, A, n, cap, A', c', e3 id o ho, by rw [hσnew id o ho]; exact h1, h2, h3, h4, h5, by rw [okind_size (kindF o)]; exact h6⟩
  have crsF : ∀ (cs : List C) (us : List Value), (∀ c ∈ cs, cFlag c = true → ha = true) → CRs fro σo so.T w' cs us → CRs fr σ2 s'.T w' (cs.map (fixC al gb b0)) us := fun cs => by
    induction cs with
    | nil =>
      intro us _ h
      cases us with
      | nil => trivial
      | cons _ _ => exact h.elim
    | cons c cs ih =>
      intro us hc h
      cases us with
      | nil => exact h.elim
      | cons u us => exact ⟨crF c u (hc c List.mem_cons_self) h.1, ih us (fun c hm => hc c (List.mem_cons_of_mem _ hm)) h.2⟩
  have keep : ∀ id o, get s.T id = some o → ∃ o', get s'.T id = some o' ∧ σ2 id = σ id ∧ okind o' = okind o := fun id o ho => by
    rcases e4 id o ho with ⟨h1, h2⟩ | h1
    · cases hs : get so.T id with
      | none => rw [hs] at h2; cases h2
      | some o2 =>
        obtain ⟨o3, h3, h4, _⟩ := hgb id o2 h1 hs
        rw [ho] at h3
        cases h3
        have := e3 id o2 hs
        rw [hN_gb h1] at this
        exact ⟨_, this, hσold id o ho, (kindF o2).trans h4.symm⟩
    · exact ⟨o, h1, hσold id o ho, rfl⟩
  have hm : Mv frD fr σ s.T w σ2 s'.T w' id (fun _ => true) id := .plain foot1 keep
  refine ⟨σ2, ⟨⟨Ro.kept.os.trans (by rw [hw]; exact R.kept.os.trans (by rw [hL.w0])), Ro.kept.tape.trans (by rw [hw]; exact R.kept.tape.trans (by rw [hL.w0])), Ro.kept.output.trans (by rw [hw]; exact R.kept.output.trans (by rw [hL.w0])), Nat.le_trans (by rw [← hL.w0]; exact R.kept.size) hsize, fun k hk hn => ?_, fun k hk => hL.new k (R.kept.fresh k (Nat.le_trans hsize hk)), hnmb⟩, hfrfa, ?_, ?_, fun i v hi => ?_, by rw [R.tmps, hL.n], by rw [← hL.n]; exact R.small, R.defers⟩, crF, fun id off u h => ?_⟩
  · have hkw : k < w.heap.size := Nat.lt_of_lt_of_le hk (by rw [← hL.w0]; exact R.kept.size)
    rw [hsame k hkw (fun hmk => ?_), ← hL.w0]
    · exact R.kept.block k (by rw [hL.w0]; exact hk) (by rw [hL.mb]; exact hn)
    · rcases hnmb k (hmb k hmk).1 with h | h
      · omega
      · exact hn h
  · intro i o1 j o2 hi hj hij b hbi hbj
    rcases cases2 i o1 hi with ⟨h1, h2, h3⟩ | ⟨id, o, h1, h2, _, h3⟩ <;> rcases cases2 j o2 hj with ⟨k1, k2, k3⟩ | ⟨jd, p, k1, k2, _, k3⟩
    · rw [h3] at hbi
      rw [k3] at hbj
      exact R.dist i o1 j o2 h1 k1 hij b hbi hbj
    · rw [h3] at hbi
      rw [k3] at hbj
      obtain ⟨p1, p2⟩ := hold i o1 b h1 h2 hbi
      rcases (hso jd p b k1 hbj).1 with h | h
      · omega
      · exact p2 h
    · rw [h3] at hbi
      rw [k3] at hbj
      obtain ⟨p1, p2⟩ := hold j o2 b k1 k2 hbj
      rcases (hso id o b h1 hbi).1 with h | h
      · omega
      · exact p2 h
    · rw [h3] at hbi
      rw [k3] at hbj
      exact Ro.dist id o jd p h1 k1 (fun e => hij (by rw [h2, k2, e])) b hbi hbj
  · intro i o1 hi
    rcases cases2 i o1 hi with ⟨h1, h2, h3⟩ | ⟨id, o, h1, h2, h4, h3⟩
    · have := hm.or2 (R.objs i o1 h1) (j := i) h3 (fun b _ h => hL.new b h) (fun b hb => by
        obtain ⟨p1, p2⟩ := hold i o1 b h1 h2 hb
        exact hsame b p1 p2)
      rwa [mapO_id] at this
    · subst h4
      have hR := Ro.objs id o h1
      have hf := hfl id o h1
      cases o with
      | row e a0 t xs =>
        obtain ⟨inner, how, hnw, hk⟩ := hR
        exact ⟨inner, by rw [h3]; exact how, fun b hb => by rw [h3] at hb; exact hnewfr b (hnw b hb), fun p x hx => KF.imp (fun b hb => ⟨foot2 a0 b hf hb, rfl⟩) t x _ (hk p x hx)⟩
      | win _ _ _ => exact hR.elim
      | box ty cs =>
        obtain ⟨g, arr, q1, q2, q3, q4⟩ := hR
        exact ⟨g, arr, by rw [h3]; exact q1, hnewfr g q2, q3, crsF cs _ (fun c hc hcf => hf ⟨c, hc, hcf⟩) q4⟩
      | arr ty n t xs =>
        obtain ⟨g, arr, q1, q2, q3, q4⟩ := hR
        exact ⟨g, arr, by rw [h3]; exact q1, hnewfr g q2, q3, q4⟩
      | iter ys p =>
        obtain ⟨g, bs, q1, q2, q3, q4⟩ := hR
        exact ⟨g, bs, by rw [h3]; exact q1, hnewfr g q2, q3, q4⟩
  · have hgh : fr.val a i = frD.val a i := by unfold Fr.val; rw [hL.gh]
    rw [hgh]
    have := hm.vr (R.env i v (by rw [← e1]; exact hi))
    rwa [mapV_id] at this
  · obtain ⟨o, a0, ho, h1, h2, h3⟩ := h
    exact ⟨_, a0, e3 id o ho, by rw [hσnew id o ho]; exact h1, h2, h3⟩
end
end Go.Proofs.YtkadllkeekoopaaGreat.Abs
end

section
namespace Go.Proofs.YtkadllkeekoopaaGreat.Abs
open Go.RowKit

section
variable {fr : Fr} {σ : Nat → Value} {s : St} {a : Act} {w : World}

/-! ## Flags of what is unpacked -/
theorem unpackC_flag {R : Type} : ∀ {x : Sh} {z : Sh.cons R x}, cFlag (unpackC x z).1 = shAl x
  | .int _, _ => rfl
  | .bool, _ => rfl
  | .str, _ => rfl
  | .sl _ _, _ => rfl
  | .nil, _ => rfl
  | .own _, _ => rfl
  | .view _, _ => rfl
theorem unpackCs_flag {R : Type} : ∀ {xs : List Sh} {z : Sh.conses R xs} {c : C}, c ∈ (unpackCs xs z).1 → cFlag c = true → xs.any shAl = true
  | [], _, _, h, _ => by cases h
  | x :: xs, z, c, h, hc => by
    simp only [unpackCs] at h
    rw [List.any_cons, Bool.or_eq_true]
    cases h with
    | head => exact .inl (unpackC_flag.symm.trans hc)
    | tail _ h => exact .inr (unpackCs_flag h hc)
theorem flat_flag {al : Bool} : ∀ (t : Ty) (x : t.den) (c : C), c ∈ flat al t x → cFlag c = true → al = true
  | .int _, _, c, h, hc => by simp [flat] at h; subst h; cases hc
  | .bool, _, c, h, hc => by simp [flat] at h; subst h; cases hc
  | .str, _, c, h, hc => by simp [flat] at h; subst h; cases hc
  | .unit, _, c, h, _ => by simp [flat] at h
  | .sl _, _, c, h, hc => by simp [flat] at h; subst h; exact hc
  | .arr n t, xs, c, h, hc => by
    simp only [flat, List.mem_flatMap] at h
    obtain ⟨i, _, h⟩ := h
    exact flat_flag t _ c h hc
  | .pair a b, x, c, h, hc => by
    simp only [flat, List.mem_append] at h
    rcases h with h | h
    · exact flat_flag a x.1 c h hc
    · exact flat_flag b x.2 c h hc
theorem unpackV_flag {R : Type} : ∀ {x : VSh} {z : VSh.cons R x} {c : C}, c ∈ argCells [(unpackV x z).1] → cFlag c = true → vAl x = true
  | .c x, z, c, h, hc => by
    simp only [unpackV, argCells, List.mem_singleton] at h
    subst h
    exact unpackC_flag.symm.trans hc
  | .agg xs, z, c, h, hc => by
    simp only [unpackV, argCells, List.append_nil] at h
    exact unpackCs_flag h hc
  | .av _ _, _, _, h, _ => by simp [unpackV, argCells] at h
  | .pt _ _, _, _, h, _ => by simp [unpackV, argCells] at h
  | .tv al t, z, c, h, hc => by
    simp only [unpackV, argCells, List.append_nil] at h
    exact flat_flag t z.1 c h hc
theorem unpackO_flag {R : Type} : ∀ {x : OSh} {z : OSh.cons R x}, oFlag (unpackO x z).1 → oAl x = true
  | .row _ _ _, _, h => h
  | .box _ xs, z, h => by
    obtain ⟨c, h1, h2⟩ := h
    exact unpackCs_flag h1 h2
  | .arr _ _ _, _, h => False.elim h
  | .iter, _, h => False.elim h
  | .tb _ al t, z, h => by
    obtain ⟨c, h1, h2⟩ := h
    exact flat_flag t z.1 c h1 h2
theorem unpackSlots_flag {R : Type} : ∀ {xs : List (Nat × VSh)} {z : slotsX R xs} {i : Nat} {v : V} {c : C}, (i, v) ∈ (unpackSlots xs z).1 → c ∈ argCells [v] → cFlag c = true → xs.any (fun x => vAl x.2) = true
  | [], _, _, _, _, h, _, _ => by cases h
  | (j, x) :: xs, z, i, v, c, h, hc, hf => by
    simp only [unpackSlots] at h
    rw [List.any_cons, Bool.or_eq_true]
    cases h with
    | head => exact .inl (unpackV_flag hc hf)
    | tail _ h => exact .inr (unpackSlots_flag h hc hf)
theorem unpackObjs_flag : ∀ {xs : List (Nat × OSh)} {z : objsX xs} {i : Nat} {o : Obj}, get (unpackObjs xs z) i = some o → oFlag o → xs.any (fun x => oAl x.2) = true
  | [], _, _, _, h, _ => by cases h
  | (j, x) :: xs, z, i, o, h, hf => by
    simp only [unpackObjs, get_cons] at h
    rw [List.any_cons, Bool.or_eq_true]
    split at h
    · cases h
      exact .inl (unpackO_flag hf)
    · exact .inr (unpackObjs_flag h hf)

/-! ## The results as one value -/
noncomputable def ghostEB : Env → Bool
  | [] => true
  | (i, _) :: r => Nat.ble 1000000 i && ghostEB r
noncomputable def numE : Nat → Env → Bool
  | _, [] => true
  | n, (i, x) :: r => bif Nat.blt i 1000000 then Nat.beq i n && numE (n + 1) r else ghostEB ((i, x) :: r)
noncomputable def cntE : Env → Nat
  | [] => 0
  | (i, _) :: r => bif Nat.blt i 1000000 then cntE r + 1 else cntE r
theorem ghostE_of {R : Type} : ∀ {xs : List (Nat × VSh)} {z : slotsX R xs} {n : Nat}, 1000000 ≤ n → ghostB n xs = true → ghostEB (unpackSlots xs z).1 = true
  | [], _, _, _, _ => rfl
  | (i, x) :: xs, z, n, hn, h => by
    simp only [ghostB, Bool.and_eq_true] at h
    simp only [unpackSlots, ghostEB, Bool.and_eq_true]
    have := Nat.eq_of_beq_eq_true h.1
    exact ⟨Nat.ble_eq.mpr (by omega), ghostE_of (Nat.le_succ_of_le hn) h.2⟩
theorem ghost_get : ∀ {xs : List (Nat × VSh)} {n : Nat}, ghostB n xs = true → ∀ k x, (k, x) ∈ xs → n ≤ k ∧ get xs k = some x
  | [], _, _, _, _, hm => by cases hm
  | (i, y) :: xs, n, h, k, x, hm => by
    simp only [ghostB, Bool.and_eq_true] at h
    have hi := Nat.eq_of_beq_eq_true h.1
    rw [get_cons]
    cases hm with
    | head => exact ⟨by omega, by rw [if_pos rfl]⟩
    | tail _ hm =>
      obtain ⟨h1, h2⟩ := ghost_get h.2 k x hm
      exact ⟨by omega, by rw [if_neg (by omega)]; exact h2⟩
theorem numB_get : ∀ {xs : List (Nat × VSh)} {n : Nat}, numB n xs = true → ∀ k x, (k, x) ∈ xs → 1000000 ≤ k → get xs k = some x
  | [], _, _, _, _, hm, _ => by cases hm
  | (i, y) :: xs, n, h, k, x, hm, hk => by
    simp only [numB] at h
    cases hb : Nat.blt i 1000000 with
    | true =>
      rw [hb] at h
      simp only [cond_true, Bool.and_eq_true] at h
      have := Nat.blt_eq.mp hb
      rw [get_cons]
      cases hm with
      | head => rw [if_pos rfl]
      | tail _ hm => rw [if_neg (by omega)]; exact numB_get h.2 k x hm hk
    | false =>
      rw [hb] at h
      exact (ghost_get h k x hm).2
theorem numE_of {R : Type} : ∀ {xs : List (Nat × VSh)} {z : slotsX R xs} {n : Nat}, numB n xs = true → numE n (unpackSlots xs z).1 = true
  | [], _, _, _ => rfl
  | (i, x) :: xs, z, n, h => by
    simp only [numB] at h
    simp only [unpackSlots, numE]
    cases hb : Nat.blt i 1000000 with
    | true =>
      rw [hb] at h
      simp only [cond_true, Bool.and_eq_true] at h ⊢
      exact ⟨h.1, numE_of h.2⟩
    | false =>
      rw [hb] at h
      exact ghostE_of (xs := (i, x) :: xs) (z := z) (Nat.le_refl _) h
theorem cntE_of {R : Type} : ∀ {xs : List (Nat × VSh)} {z : slotsX R xs}, cntE (unpackSlots xs z).1 = cntB xs
  | [], _ => rfl
  | (i, x) :: xs, z => by
    simp only [unpackSlots, cntE, cntB]
    rw [cntE_of]
theorem ghost_not {e : Env} (h : ghostEB e = true) : ∀ i v, (i, v) ∈ e → 1000000 ≤ i := by
  induction e with
  | nil => intro i v hm; cases hm
  | cons p r ih =>
    obtain ⟨j, x⟩ := p
    simp only [ghostEB, Bool.and_eq_true] at h
    intro i v hm
    cases hm with
    | head => exact Nat.le_of_ble_eq_true h.1
    | tail _ hm => exact ih h.2 i v hm
theorem cnt_ghost : ∀ {e : Env}, ghostEB e = true → cntE e = 0
  | [], _ => rfl
  | (j, x) :: r, h => by
    simp only [ghostEB, Bool.and_eq_true] at h
    have : Nat.blt j 1000000 = false := by
      rw [← Bool.not_eq_true, Nat.blt_eq]
      have := Nat.le_of_ble_eq_true h.1
      omega
    simp only [cntE, this, cond_false]
    exact cnt_ghost h.2
theorem num_ge : ∀ {e : Env} {n : Nat}, numE n e = true → ∀ i v, (i, v) ∈ e → n ≤ i ∨ 1000000 ≤ i
  | [], _, _, _, _, hm => by cases hm
  | (j, x) :: r, n, h, i, v, hm => by
    simp only [numE] at h
    cases hb : Nat.blt j 1000000 with
    | true =>
      rw [hb] at h
      simp only [cond_true, Bool.and_eq_true] at h
      have hj := Nat.eq_of_beq_eq_true h.1
      cases hm with
      | head => exact .inl (by omega)
      | tail _ hm => exact (num_ge h.2 i v hm).imp (by omega) (fun h => h)
    | false =>
      rw [hb] at h
      exact .inr (ghost_not h i v hm)
theorem num_get : ∀ {e : Env} {n : Nat}, numE n e = true → ∀ i v, (i, v) ∈ e → i < 1000000 → get e i = some v
  | [], _, _, _, _, hm, _ => by cases hm
  | (j, x) :: r, n, h, i, v, hm, hi => by
    have h0 := h
    simp only [numE] at h
    cases hb : Nat.blt j 1000000 with
    | true =>
      rw [hb] at h
      simp only [cond_true, Bool.and_eq_true] at h
      have hj := Nat.eq_of_beq_eq_true h.1
      rw [get_cons]
      cases hm with
      | head => rw [if_pos rfl]
      | tail _ hm =>
        have := num_ge h.2 i v hm
        rw [if_neg (by omega)]
        exact num_get h.2 i v hm hi
    | false =>
      rw [hb] at h
      have := ghost_not h i v hm
      omega
theorem oneE_ghost : ∀ {e : Env}, oneE e = ghostEB e
  | [] => rfl
  | (i, _) :: r => by simp only [oneE, ghostEB, oneE_ghost (e := r)]

theorem fixV_spec {fro : Fr} {σo σ2 : Nat → Value} {To T2 : Tab} {w' : World} {gb : List Nat} {b0 : Nat} {ha al : Bool} (crF : ∀ c u, (cFlag c = true → ha = true) → CR fro σo To w' c u → CR fr σ2 T2 w' (fixC al gb b0 c) u) (ptF : ∀ id off u, VR fro σo To w' (.pt id off) u → VR fr σ2 T2 w' (.pt (hN gb b0 id) off) u)
    {v : V} {u : Value} (hf : ∀ c ∈ argCells [v], cFlag c = true → ha = true) (h : VR fro σo To w' v u) : VR fr σ2 T2 w' (fixV al gb b0 v) u := by
  have crsF : ∀ (cs : List C) (us : List Value), (∀ c ∈ cs, cFlag c = true → ha = true) → CRs fro σo To w' cs us → CRs fr σ2 T2 w' (cs.map (fixC al gb b0)) us := fun cs => by
    induction cs with
    | nil =>
      intro us _ h
      cases us with
      | nil => trivial
      | cons _ _ => exact h.elim
    | cons c cs ih =>
      intro us hc h
      cases us with
      | nil => exact h.elim
      | cons u us => exact ⟨crF c u (hc c List.mem_cons_self) h.1, ih us (fun c hm => hc c (List.mem_cons_of_mem _ hm)) h.2⟩
  cases v with
  | c x => exact crF x u (hf x (by simp [argCells])) h
  | agg cs =>
    obtain ⟨arr, rfl, hA⟩ := h
    exact ⟨arr, rfl, crsF cs _ (fun c hc => hf c (by simpa [argCells] using hc)) hA⟩
  | av n t xs => exact h
  | pt id off => exact ptF id off u h
  | _ => trivial
theorem partsE_spec {fro : Fr} {σo σ2 : Nat → Value} {To T2 : Tab} {w' : World} {gb : List Nat} {b0 : Nat} {ha al : Bool} (crF : ∀ c u, (cFlag c = true → ha = true) → CR fro σo To w' c u → CR fr σ2 T2 w' (fixC al gb b0 c) u) (ptF : ∀ id off u, VR fro σo To w' (.pt id off) u → VR fr σ2 T2 w' (.pt (hN gb b0 id) off) u) :
    ∀ (e : Env) (n : Nat) (us : List Value) (l : List (Bool × List C)), numE n e = true → partsE al gb b0 e = some l → us.length = cntE e → (∀ i v, (i, v) ∈ e → ∀ c ∈ argCells [v], cFlag c = true → ha = true) → (∀ i v, (i, v) ∈ e → i < 1000000 → VR fro σo To w' v (us.getD (i - n) Go.undef)) → PRs fr σ2 T2 w' l us
  | [], n, us, l, _, h, hl, _, _ => by
    cases h
    cases us with
    | nil => trivial
    | cons _ _ => simp [cntE] at hl
  | (i, v) :: e, n, us, l, hn, h, hl, hf, hV => by
    have hn0 := hn
    simp only [numE] at hn
    simp only [partsE] at h
    simp only [cntE] at hl
    cases hb : Nat.blt i 1000000 with
    | false =>
      rw [hb] at hn h hl
      simp only [cond_false] at hn h hl
      have hge : ghostEB e = true := by
        simp only [ghostEB, Bool.and_eq_true] at hn
        exact hn.2
      have hne : numE n e = true := by
        cases e with
        | nil => rfl
        | cons p r =>
          obtain ⟨j, y⟩ := p
          have hg := hge
          simp only [ghostEB, Bool.and_eq_true] at hg
          have : Nat.blt j 1000000 = false := by
            rw [← Bool.not_eq_true, Nat.blt_eq]
            have := Nat.le_of_ble_eq_true hg.1
            omega
          simp only [numE, this, cond_false]
          exact hge
      exact partsE_spec crF ptF e n us l hne h hl (fun j y hm => hf j y (List.mem_cons_of_mem _ hm)) (fun j y hm => hV j y (List.mem_cons_of_mem _ hm))
    | true =>
      rw [hb] at hn h hl
      simp only [cond_true, Bool.and_eq_true] at hn h hl
      have hi := Nat.eq_of_beq_eq_true hn.1
      subst hi
      cases us with
      | nil => simp at hl
      | cons u us =>
        have hlt := Nat.blt_eq.mp hb
        have hv0 := hV i v List.mem_cons_self hlt
        rw [Nat.sub_self] at hv0
        have hv0 : VR fro σo To w' v u := hv0
        have hfix := fixV_spec (fr := fr) (σ2 := σ2) (T2 := T2) (b0 := b0) (gb := gb) (al := al) crF ptF (hf i v List.mem_cons_self) hv0
        have rest : ∀ l', partsE al gb b0 e = some l' → PRs fr σ2 T2 w' l' us := fun l' hl' => partsE_spec crF ptF e (i + 1) us l' hn.2 hl' (by simpa using hl) (fun j y hm => hf j y (List.mem_cons_of_mem _ hm)) (fun j y hm hj => by
          have := hV j y (List.mem_cons_of_mem _ hm) hj
          have hge := num_ge hn.2 j y hm
          rw [show j - i = (j - (i + 1)) + 1 by omega] at this
          exact this)
        split at h
        · split at h
          case h_2 => cases h
          rename_i l' hl'
          cases h
          exact ⟨⟨_, rfl, hfix⟩, rest l' hl'⟩
        · split at h
          case h_2 => cases h
          rename_i l' hl'
          cases h
          obtain ⟨arr, hA, hB⟩ := hfix
          exact ⟨⟨arr, hA, hB⟩, rest l' hl'⟩
        · cases h
theorem PRs.len {T : Tab} {w' : World} : ∀ {rs : List (Bool × List C)} {us : List Value}, PRs fr σ T w' rs us → rs.length = us.length
  | [], [], _ => rfl
  | [], _ :: _, h => h.elim
  | (_, _) :: _, [], h => h.elim
  | (_, _) :: _, _ :: _, h => congrArg (· + 1) (PRs.len h.2)
theorem resE_spec {fro : Fr} {σo σ2 : Nat → Value} {To T2 : Tab} {w' : World} {gb : List Nat} {b0 : Nat} {ha al : Bool} (crF : ∀ c u, (cFlag c = true → ha = true) → CR fro σo To w' c u → CR fr σ2 T2 w' (fixC al gb b0 c) u) (ptF : ∀ id off u, VR fro σo To w' (.pt id off) u → VR fr σ2 T2 w' (.pt (hN gb b0 id) off) u)
    {e : Env} {us : List Value} {v : V} (hn : numE 0 e = true) (hl : us.length = cntE e) (hf : ∀ i v, (i, v) ∈ e → ∀ c ∈ argCells [v], cFlag c = true → ha = true) (hV : ∀ i v, (i, v) ∈ e → i < 1000000 → VR fro σo To w' v (us.getD i Go.undef)) (h : resE al gb b0 e = some v) : VR fr σ2 T2 w' v (retV us) := by
  have tup : ∀ l, partsE al gb b0 e = some l → us.length ≠ 1 → VR fr σ2 T2 w' (.tup l) (retV us) := fun l hp h1 => by
    have := partsE_spec (fr := fr) (σ2 := σ2) (T2 := T2) crF ptF e 0 us l hn hp hl hf (fun i v hm hi => by rw [Nat.sub_zero]; exact hV i v hm hi)
    have e1 : retV us = .tuple us.toArray := by
      cases us with
      | nil => rfl
      | cons u us =>
        cases us with
        | cons _ _ => rfl
        | nil => simp at h1
    exact ⟨_, e1, this⟩
  unfold resE at h
  split at h
  · rename_i v0 r
    rcases ble_of h with ⟨hg, h'⟩ | ⟨hg, h'⟩
    · cases h'
      rw [oneE_ghost] at hg
      have hc : us.length = 1 := by
        rw [hl]
        simp only [cntE, cnt_ghost hg]
        rfl
      cases us with
      | nil => simp at hc
      | cons u us =>
        cases us with
        | cons _ _ => simp at hc
        | nil =>
          have := hV 0 v0 List.mem_cons_self (by omega)
          exact fixV_spec crF ptF (hf 0 v0 List.mem_cons_self) this
    · split at h'
      case h_2 => cases h'
      rename_i l hp
      cases h'
      refine tup l hp ?_
      rw [oneE_ghost] at hg
      rw [hl]
      have : cntE r ≠ 0 := by
        have hn' := hn
        simp only [numE] at hn'
        have hb : Nat.blt 0 1000000 = true := rfl
        rw [hb] at hn'
        simp only [cond_true, Bool.and_eq_true] at hn'
        cases r with
        | nil => simp [ghostEB] at hg
        | cons p r =>
          obtain ⟨j, y⟩ := p
          have h2 := hn'.2
          simp only [numE] at h2
          cases hbj : Nat.blt j 1000000 with
          | true => simp [cntE, hbj]
          | false =>
            rw [hbj] at h2
            rw [show ghostEB ((j, y) :: r) = true from h2] at hg
            cases hg
      simp only [cntE]
      have hb : Nat.blt 0 1000000 = true := rfl
      rw [hb]
      simp only [cond_true]
      omega
  · rename_i hne
    split at h
    case h_2 => cases h
    rename_i l hp
    cases h
    refine tup l hp ?_
    rw [hl]
    cases e with
    | nil => simp [cntE]
    | cons p r =>
      obtain ⟨j, y⟩ := p
      have h2 := hn
      simp only [numE] at h2
      cases hbj : Nat.blt j 1000000 with
      | true =>
        rw [hbj] at h2
        simp only [cond_true, Bool.and_eq_true] at h2
        have := Nat.eq_of_beq_eq_true h2.1
        subst this
        exact absurd rfl (hne y r)
      | false =>
        rw [hbj] at h2
        have h2 : ghostEB ((j, y) :: r) = true := h2
        rw [cnt_ghost h2]
        omega
end

section
variable {ρ : Type} {G : Ctx} {fr : Fr} {σ : Nat → Value} {s : St} {a : Act} {w : World} {o : Oper} {K : V → St → Option ρ} {r : ρ}
theorem argE_get : ∀ {vs : List V} {n i : Nat} {v : V}, get (argE n vs) i = some v → n ≤ i ∧ vs[i - n]? = some v
  | [], _, _, _, h => by cases h
  | x :: vs, n, i, v, h => by
    simp only [argE, get_cons] at h
    split at h
    · rename_i e
      cases h
      subst e
      exact ⟨Nat.le_refl _, by simp⟩
    · rename_i e
      obtain ⟨h1, h2⟩ := argE_get h
      refine ⟨by omega, ?_⟩
      rw [show i - n = (i - (n + 1)) + 1 by omega]
      simpa using h2
theorem argE_of : ∀ {vs : List V} {n i : Nat} {v : V}, vs[i]? = some v → get (argE n vs) (n + i) = some v
  | [], _, _, _, h => by simp at h
  | x :: vs, n, 0, v, h => by
    simp at h
    subst h
    simp [argE, get_cons]
  | x :: vs, n, i + 1, v, h => by
    simp only [argE, get_cons]
    rw [if_neg (by omega), show n + (i + 1) = (n + 1) + i by omega]
    exact argE_of (by simpa using h)
theorem argCells_mem : ∀ {vs : List V} {v : V} {i : Nat}, vs[i]? = some v → ∀ c ∈ argCells [v], c ∈ argCells vs
  | [], _, _, h, _, _ => by simp at h
  | x :: vs, v, i, h, c, hc => by
    have step : ∀ y, y ∈ argCells vs → y ∈ argCells (x :: vs) := fun y hy => by
      cases x <;> simp only [argCells, List.mem_cons, List.mem_append] <;> first | exact .inr hy | exact hy
    cases i with
    | zero =>
      simp at h
      subst h
      cases x <;> simp_all [argCells]
    | succ i => exact step c (argCells_mem (by simpa using h) c hc)

/-- What a call's result is worth, in the frame of the call that was made. -/
theorem call_wp {c : Call} (ho : o.op = .call c) {f : FuncId} (hc : c.callee = .value (.func f)) {F : Fn} (hF : CallOk fr.P f F) {x : F.din.X} {res : F.dout.X} (hrun : F.run x = some res) {fr' : Fr} {σ' : Nat → Value} (hP : fr'.P = fr.P) (hw : fr'.w0 = w) (hn : fr'.n = (c.args.toList.map a.eval).length) (hcnt : (c.args.toList.map a.eval).length = cntB F.din.slots)
    (R : RelS fr' σ' (unpack F.din x) ⟨(c.args.toList.map a.eval).toArray, []⟩ w) {next : Act → World → Prop} {Q : Exit → Act → World → Prop}
    (hfin : ∀ w' σo us', us'.length = cntB F.dout.slots → RelS { fr' with n := us'.length } σo (unpack F.dout res) ⟨us'.toArray, []⟩ w' → next (a.put o.dst (retV us')) w') : o.wp fr.P a w next Q := by
  subst hw
  have hcall := hF.2.2 x res hrun fr' σ' _ hP hn hcnt R
  have hex : execOp a.eval o = callFunc f (c.args.toList.map a.eval).toArray := by
    obtain ⟨dst, op, ty, pos, aft, gd⟩ := o
    obtain ⟨callee, args, ats⟩ := c
    simp only at ho hc
    subst ho hc
    rw [execOp_call_go]
    congr 1
    apply Array.ext'
    simp
  unfold Oper.wp
  rw [hex, hF.1]
  rw [Oper.upon_enter]
  refine Calls.mono hcall fun e w' he => ?_
  cases e with
  | returned u =>
    obtain ⟨σo, us', rfl, hl, hR⟩ := he
    exact hfin w' σo us' hl hR
  | panicked _ => exact he.elim
  | outgrown => exact he.elim

theorem goes_callR (R : RelS fr σ s a w) {c : Call} (ho : o.op = .call c) {f : FuncId} (hc : c.callee = .value (.func f)) {F : Fn} (hF : CallOk fr.P f F) {vs : List V} (hvs : evAll s c.args.toList = some vs) (hlen : vs.length ≤ 1000) (hcnt : vs.length = cntB F.din.slots) {d : Nat} (h : callR F s d vs K = some r) : Goes fr o a w K r := by
  intro next Q hnext
  unfold callR at h
  rcases ble_of h with ⟨_, h⟩ | ⟨hcl, h⟩
  · cases h
  simp only [Bool.not_eq_false'] at hcl
  split at h
  case h_1 => cases h
  rename_i e he
  split at h
  case h_1 => cases h
  rename_i x hx
  split at h
  case h_1 => cases h
  rename_i s1 hs1
  cases hrun : F.run x with
  | none => rw [hrun] at h; cases h
  | some res =>
    rw [hrun] at h
    simp only [Option.bind_some] at h
    split at h
    case h_2 => cases h
    rename_i s2 hs2
    split at h
    case h_2 => cases h
    rename_i v hv
    obtain ⟨l1, l2⟩ := evAll_spec R hvs
    let us := c.args.toList.map a.eval
    have hul : us.length = vs.length := by simp only [us, List.length_map]; exact l1.symm
    let fr' : Fr := { P := fr.P, w0 := w, FA := Reach fr σ s.T w (argCells vs), MB := fun b => ∃ id o, (get ([] : List (Nat × OSh)) id).isSome = true ∧ get s.T id = some o ∧ blk (σ id) = some b, new := fun b => w.heap.size ≤ b ∨ ∃ id o, (get ([] : List (Nat × OSh)) id).isSome = true ∧ get s.T id = some o ∧ blk (σ id) = some b, n := us.length, gh := fun _ => Go.undef }
    have hno : ∀ b, ¬ fr'.MB b := fun b ⟨id, _, h, _⟩ => by simp [get] at h
    have hR0 : RelS fr' σ ⟨e, []⟩ ⟨us.toArray, []⟩ w := callee_rel R (objs := []) (cs := argCells vs) (fr' := fr') (T' := []) rfl he rfl rfl rfl rfl rfl (by omega) (fun i v hi => by
      obtain ⟨_, hi'⟩ := argE_get hi
      rw [Nat.sub_zero] at hi'
      obtain ⟨y, hy, hV⟩ := l2 i v hi'
      refine ⟨argCells_mem hi', ?_⟩
      have hlt := (List.getElem?_eq_some_iff.1 hi').1
      have hval : fr'.val ⟨us.toArray, []⟩ i = a.eval y := by
        unfold Fr.val
        rw [if_pos (by omega)]
        have : us[i]? = some (a.eval y) := by simp only [us, List.getElem?_map, hy]; rfl
        rw [Array.getD_eq_getD_getElem?]
        simp [this]
      rw [hval]
      exact hV) (fun id h => by simp [get] at h) (fun id _ _ h => by simp [get] at h)
    have hR1 := hR0.pack hcl hx
    refine call_wp ho hc hF hrun (fr' := fr') (σ' := σ) rfl rfl rfl (hul.trans hcnt) hR1 fun w' σo us' hl' Ro => ?_
    have R1 : RelS fr σ s1 a w := by
      cases hal : hasAl F.dout with
      | true => rw [hal] at hs1; exact R.freezeAll hs1
      | false => rw [hal] at hs1; cases hs1; exact R
    obtain ⟨σ2, R2, crF, ptF⟩ := merge (ha := hasAl F.dout) (gb := []) R1 Ro rfl (.refl fr) R1.fa R1.kept.nmb (fun b hb => absurd hb (hno b)) (fun b hb => .inr hb) (fun b i o' hb => absurd hb (hno b)) (fun i o' hi => by cases hi) (fun i o' hi => by cases hi)
      (fun id o' hi hf => by
        have := unpackObjs_flag hi hf
        simp only [hasAl, this, Bool.or_true]) (fun hha b hb => by
        rw [hha] at hs1
        exact .inl (reach_frozen R hs1 (fun i hi => hi) (fun h => h) hb)) hs2
    exact hnext v s2 σ2 _ w' h R2 (resE_spec (ha := hasAl F.dout) crF ptF (numE_of hF.2.1.1) (by rw [hl']; exact (cntE_of (xs := F.dout.slots) (z := res)).symm) (fun i v hm c hc hf => by
      have := unpackSlots_flag hm hc hf
      simp only [hasAl, this, Bool.true_or]) (fun i v hm hi => by
      have := Ro.env i v (num_get (numE_of hF.2.1.1) i v hm hi)
      unfold Fr.val at this
      rw [if_pos hi] at this
      rw [Array.getD_eq_getD_getElem?] at this
      rw [List.getD_eq_getElem?_getD]
      simpa using this) hv)
end
end Go.Proofs.YtkadllkeekoopaaGreat.Abs
end

section
namespace Go.Proofs.YtkadllkeekoopaaGreat.Abs
open Go.RowKit

section
variable {fr : Fr} {σ : Nat → Value} {s : St} {a : Act} {w : World}
/-- Other ghosts. -/
theorem RelS.regh (R : RelS fr σ s a w) (gh : Nat → Value) {e : Env} (h : ∀ i v, get e i = some v → VR fr σ s.T w v (({ fr with gh := gh } : Fr).val a i)) : RelS { fr with gh := gh } σ ⟨e, s.T⟩ a w :=
  have m : Mv fr { fr with gh := gh } σ s.T w σ s.T w id (fun _ => true) id := .plain (fun _ _ hf => ⟨hf, rfl⟩) (fun _ o ho => ⟨o, ho, rfl, rfl⟩)
  ⟨⟨R.kept.os, R.kept.tape, R.kept.output, R.kept.size, R.kept.block, R.kept.fresh, R.kept.nmb⟩, R.fa, R.dist, fun id o ho => by
    have := m.or2 (R.objs id o ho) (j := id) rfl (fun _ _ h => h) (fun _ _ => rfl)
    rwa [mapO_id] at this, fun i v hi => by
    have := m.vr (h i v hi)
    rwa [mapV_id] at this, R.tmps, R.small, R.defers⟩
theorem VR.ungh {gh : Nat → Value} {T : Tab} {v : V} {u : Value} (h : VR { fr with gh := gh } σ T w v u) : VR fr σ T w v u := by
  have m : Mv { fr with gh := gh } fr σ T w σ T w id (fun _ => true) id := .plain (fun _ _ hf => ⟨hf, rfl⟩) (fun _ o ho => ⟨o, ho, rfl, rfl⟩)
  have := m.vr h
  rwa [mapV_id] at this
theorem freezeAll_keep : ∀ {ids : List Nat} {s s' : St}, freezeAll ids s = some s' → (∀ id, id ∉ ids → ∀ o, get s.T id = some o → ∃ o', get s'.T id = some o' ∧ okind o' = okind o) ∧ ∀ id o', get s'.T id = some o' → ∃ o, get s.T id = some o ∧ okind o' = okind o
  | [], s, s', h => by
    cases h
    exact ⟨fun _ _ o h => ⟨o, h, rfl⟩, fun _ o h => ⟨o, h, rfl⟩⟩
  | i :: ids, s, s', h => by
    simp only [Go.Proofs.YtkadllkeekoopaaGreat.Abs.freezeAll] at h
    split at h
    · obtain ⟨h1, h2⟩ := freezeAll_keep h
      exact ⟨fun id hm o ho => h1 id (fun h => hm (List.mem_cons_of_mem _ h)) o ho, h2⟩
    · split at h
      case h_2 => cases h
      rename_i s1 hs
      obtain ⟨h1, h2⟩ := freezeAll_keep h
      unfold Go.Proofs.YtkadllkeekoopaaGreat.Abs.freeze at hs
      split at hs
      case h_2 => cases hs
      rename_i e al t xs ho
      cases hs
      have hget : ∀ k, get (mapT (freezeC i al t xs) (del s.T i)) k = if i = k then none else (get s.T k).map (mapO (freezeC i al t xs)) := fun k => by
        rw [get_mapT, get_del]
        by_cases e : i = k <;> simp [e]
      refine ⟨fun id hm o ho => ?_, fun id o' ho' => ?_⟩
      · have hne : i ≠ id := fun e => hm (by rw [e]; exact List.mem_cons_self)
        obtain ⟨o', ho', hk⟩ := h1 id (fun h => hm (List.mem_cons_of_mem _ h)) (mapO (freezeC i al t xs) o) (by
          show get (mapT (freezeC i al t xs) (del s.T i)) id = _
          rw [hget, if_neg hne, ho]; rfl)
        exact ⟨o', ho', hk.trans (by cases o <;> rfl)⟩
      · obtain ⟨o, ho, hk⟩ := h2 id o' ho'
        have ho : get (mapT (freezeC i al t xs) (del s.T i)) id = some o := ho
        rw [hget] at ho
        split at ho
        · cases ho
        · cases h : get s.T id with
          | none => rw [h] at ho; cases ho
          | some o2 =>
            rw [h] at ho
            simp at ho
            subst ho
            exact ⟨o2, rfl, hk.trans (by cases o2 <;> rfl)⟩
theorem otherIds_mem {objs : List (Nat × OSh)} : ∀ {l : List Nat} {i : Nat}, i ∈ otherIds objs l ↔ i ∈ l ∧ get objs i = none
  | [], i => by simp [otherIds]
  | j :: l, i => by
    simp only [otherIds]
    cases h : get objs j with
    | some x =>
      simp only [otherIds_mem, List.mem_cons]
      constructor
      · rintro ⟨h1, h2⟩; exact ⟨.inr h1, h2⟩
      · rintro ⟨h1 | h1, h2⟩
        · subst h1; rw [h] at h2; cases h2
        · exact ⟨h1, h2⟩
    | none =>
      simp only [List.mem_cons, otherIds_mem]
      constructor
      · rintro (h1 | ⟨h1, h2⟩)
        · subst h1; exact ⟨.inl rfl, h⟩
        · exact ⟨.inr h1, h2⟩
      · rintro ⟨h1 | h1, h2⟩
        · exact .inl h1
        · exact .inr ⟨h1, h2⟩
theorem get_app {α : Type} : ∀ {l m : List (Nat × α)} {i : Nat} {x : α}, get (l ++ m) i = some x → get l i = some x ∨ (get l i = none ∧ get m i = some x)
  | [], _, _, _, h => .inr ⟨rfl, h⟩
  | (j, y) :: l, m, i, x, h => by
    rw [List.cons_append, get_cons] at h
    rw [get_cons]
    split at h
    · rename_i e
      rw [if_pos e]
      exact .inl h
    · rename_i e
      rw [if_neg e]
      exact get_app h
theorem below2_get : ∀ {e : Env} {i : Nat} {v : V}, get (below2 e) i = some v → i < 2000000 ∧ get e i = some v
  | [], _, _, h => by cases h
  | (j, y) :: e, i, v, h => by
    simp only [below2] at h
    rw [get_cons]
    cases hb : Nat.blt j 2000000 with
    | true =>
      rw [hb] at h
      simp only [cond_true, get_cons] at h
      have := Nat.blt_eq.mp hb
      split at h
      · rename_i e1
        rw [if_pos e1]
        exact ⟨by omega, h⟩
      · rename_i e1
        rw [if_neg e1]
        exact below2_get h
    | false =>
      rw [hb] at h
      simp only [cond_false] at h
      obtain ⟨h1, h2⟩ := below2_get h
      have hne : j ≠ i := fun e1 => by
        subst e1
        rw [Nat.blt_eq.mpr h1] at hb
        cases hb
      rw [if_neg hne]
      exact ⟨h1, h2⟩
theorem argVs_spec {n : Nat} {e : Env} : ∀ {l : List (Nat × VSh)} {ve : Env}, argVs n l e = some ve → ∀ i v, get ve i = some v → get e (n + i) = some v ∧ ∃ x, (i, x) ∈ l
  | [], ve, h, i, v, hi => by
    cases h
    cases hi
  | (j, x) :: l, ve, h, i, v, hi => by
    simp only [argVs] at h
    split at h
    case h_2 => cases h
    rename_i v1 hv1
    split at h
    case h_2 => cases h
    rename_i l' hl'
    cases h
    rw [get_cons] at hi
    split at hi
    · rename_i e1
      cases hi
      subst e1
      exact ⟨hv1, x, List.mem_cons_self⟩
    · obtain ⟨h1, y, h2⟩ := argVs_spec hl' i v hi
      exact ⟨h1, y, List.mem_cons_of_mem _ h2⟩
theorem parms_mem : ∀ {l : List (Nat × VSh)} {i : Nat} {x : VSh}, (i, x) ∈ parms l → (i, x) ∈ l ∧ i < 1000000
  | [], _, _, h => by cases h
  | (j, y) :: l, i, x, h => by
    simp only [parms] at h
    cases hb : Nat.blt j 1000000 with
    | true =>
      rw [hb] at h
      simp only [cond_true] at h
      cases h with
      | head => exact ⟨List.mem_cons_self, Nat.blt_eq.mp hb⟩
      | tail _ h => exact ⟨List.mem_cons_of_mem _ (parms_mem h).1, (parms_mem h).2⟩
    | false =>
      rw [hb] at h
      exact ⟨List.mem_cons_of_mem _ (parms_mem h).1, (parms_mem h).2⟩
/-- What a ghost is. -/
def GhostOf (T : Tab) (i : Nat) (x : VSh) (v : V) : Prop := 1000000 ≤ i ∧ ((∃ id, x = .pt id 0 ∧ v = .pt id 0 ∧ ((∃ ty cs, get T id = some (.box ty cs)) ∨ ∃ ty n t xs, get T id = some (.arr ty n t xs))) ∨ ∃ id e al t xs, x = .c (.own id) ∧ v = .c (.own id) ∧ get T id = some (.row e al t xs))
theorem ghosts_spec {T : Tab} : ∀ {l : List (Nat × VSh)} {ge : Env}, ghosts l T = some ge → (∀ i v, get ge i = some v → ∃ x, (i, x) ∈ l ∧ GhostOf T i x v) ∧ ∀ k x, 1000000 ≤ k → get l k = some x → ∃ v, get ge k = some v ∧ GhostOf T k x v
  | [], ge, h => by
    cases h
    exact ⟨fun i v hi => by simp [get] at hi, fun k x _ hk => by simp [get] at hk⟩
  | (j, y) :: l, ge, h => by
    simp only [ghosts] at h
    cases hb : Nat.blt j 1000000 with
    | true =>
      rw [hb] at h
      simp only [cond_true] at h
      obtain ⟨h1, h2⟩ := ghosts_spec h
      have hj := Nat.blt_eq.mp hb
      refine ⟨fun i v hi => (h1 i v hi).imp fun x hx => ⟨List.mem_cons_of_mem _ hx.1, hx.2⟩, fun k x hk hg => ?_⟩
      rw [get_cons, if_neg (by omega)] at hg
      exact h2 k x hk hg
    | false =>
      rw [hb] at h
      simp only [cond_false] at h
      have hj : 1000000 ≤ j := by
        rcases Nat.lt_or_ge j 1000000 with h' | h'
        · rw [Nat.blt_eq.mpr h'] at hb; cases hb
        · exact h'
      have go : ∀ v l', ghosts l T = some l' → GhostOf T j y v → ge = (j, v) :: l' → (∀ i v, get ge i = some v → ∃ x, (i, x) ∈ (j, y) :: l ∧ GhostOf T i x v) ∧ ∀ k x, 1000000 ≤ k → get ((j, y) :: l) k = some x → ∃ v, get ge k = some v ∧ GhostOf T k x v := fun v l' hl' hG hge => by
        subst hge
        obtain ⟨h1, h2⟩ := ghosts_spec hl'
        refine ⟨fun i u hi => ?_, fun k x hk hg => ?_⟩
        · rw [get_cons] at hi
          split at hi
          · rename_i e1
            cases hi
            subst e1
            exact ⟨y, List.mem_cons_self, hG⟩
          · obtain ⟨x, hx1, hx2⟩ := h1 i u hi
            exact ⟨x, List.mem_cons_of_mem _ hx1, hx2⟩
        · rw [get_cons] at hg ⊢
          split at hg
          · rename_i e1
            cases hg
            subst e1
            exact ⟨v, by rw [if_pos rfl], hG⟩
          · rename_i e1
            rw [if_neg e1]
            exact h2 k x hk hg
      split at h
      · split at h
        · rename_i hT
          split at h
          case h_2 => cases h
          rename_i l' hl'
          cases h
          exact go _ l' hl' ⟨hj, .inl ⟨_, rfl, rfl, .inl ⟨_, _, hT⟩⟩⟩ rfl
        · rename_i hT
          split at h
          case h_2 => cases h
          rename_i l' hl'
          cases h
          exact go _ l' hl' ⟨hj, .inl ⟨_, rfl, rfl, .inr ⟨_, _, _, _, hT⟩⟩⟩ rfl
        · cases h
      · split at h
        · rename_i hT
          split at h
          case h_2 => cases h
          rename_i l' hl'
          cases h
          exact go _ l' hl' ⟨hj, .inr ⟨_, _, _, _, _, rfl, rfl, hT⟩⟩ rfl
        · cases h
      · cases h
theorem gbs_mem : ∀ {l : List (Nat × VSh)} {id : Nat}, has (gbs l) id = true → ∃ k x, (k, x) ∈ l ∧ 1000000 ≤ k ∧ ((∃ off, x = .pt id off) ∨ x = .c (.own id))
  | [], id, h => by cases h
  | (j, y) :: l, id, h => by
    simp only [gbs] at h
    cases hb : Nat.blt j 1000000 with
    | true =>
      rw [hb] at h
      obtain ⟨k, x, h1, h2⟩ := gbs_mem (l := l) h
      exact ⟨k, x, List.mem_cons_of_mem _ h1, h2⟩
    | false =>
      rw [hb] at h
      simp only [cond_false] at h
      have hj : 1000000 ≤ j := by
        rcases Nat.lt_or_ge j 1000000 with h' | h'
        · rw [Nat.blt_eq.mpr h'] at hb; cases hb
        · exact h'
      have later : has (gbs l) id = true → ∃ k x, (k, x) ∈ (j, y) :: l ∧ 1000000 ≤ k ∧ ((∃ off, x = .pt id off) ∨ x = .c (.own id)) := fun h => by
        obtain ⟨k, x, h1, h2⟩ := gbs_mem (l := l) h
        exact ⟨k, x, List.mem_cons_of_mem _ h1, h2⟩
      split at h
      · rename_i id' off
        simp only [has, Bool.or_eq_true] at h
        rcases h with h | h
        · have := Nat.eq_of_beq_eq_true h
          subst this
          exact ⟨j, _, List.mem_cons_self, hj, .inl ⟨off, rfl⟩⟩
        · exact later h
      · rename_i id'
        simp only [has, Bool.or_eq_true] at h
        rcases h with h | h
        · have := Nat.eq_of_beq_eq_true h
          subst this
          exact ⟨j, _, List.mem_cons_self, hj, .inr rfl⟩
        · exact later h
      · exact later h
theorem ghEq_spec {din dout : Desc} : ∀ {l : List (Nat × VSh)}, ghEq din dout l = true → ∀ k x, (k, x) ∈ l → 1000000 ≤ k → ∃ id p q, (x = .pt id 0 ∨ x = .c (.own id)) ∧ get din.slots k = some x ∧ get din.objs id = some p ∧ get dout.objs id = some q ∧ sameKind p q = true
  | [], _, _, _, hm, _ => by cases hm
  | (j, y) :: l, h, k, x, hm, hk => by
    simp only [ghEq, Bool.and_eq_true] at h
    cases hm with
    | tail _ hm => exact ghEq_spec h.2 k x hm hk
    | head =>
      have h := h.1
      have hb : Nat.blt j 1000000 = false := by
        rw [← Bool.not_eq_true, Nat.blt_eq]
        omega
      rw [hb] at h
      simp only [cond_false] at h
      split at h
      · rename_i id
        simp only [Bool.and_eq_true] at h
        obtain ⟨h1, h2⟩ := h
        split at h1
        case h_2 => cases h1
        rename_i id' hs
        have := Nat.eq_of_beq_eq_true h1
        subst this
        split at h2
        case h_2 => cases h2
        rename_i p q hp hq
        exact ⟨_, p, q, .inl rfl, hs, hp, hq, h2⟩
      · rename_i id
        simp only [Bool.and_eq_true] at h
        obtain ⟨h1, h2⟩ := h
        split at h1
        case h_2 => cases h1
        rename_i id' hs
        have := Nat.eq_of_beq_eq_true h1
        subst this
        split at h2
        case h_2 => cases h2
        rename_i p q hp hq
        exact ⟨_, p, q, .inr rfl, hs, hp, hq, h2⟩
      · cases h
theorem closed_slot {d : Desc} (h : closed d = true) {k : Nat} {x : VSh} (hm : (k, x) ∈ d.slots) : vOk d.objs x = true := by
  simp only [closed, Bool.and_eq_true, List.all_eq_true] at h
  exact h.1 _ hm
theorem lentCells_mem {T : Tab} : ∀ {l : List (Nat × OSh)} {id : Nat} {ty : TypeId} {ds : List C}, (get l id).isSome = true → get T id = some (.box ty ds) → ∀ c ∈ ds, c ∈ lentCells T l
  | [], _, _, _, h, _, _, _ => by cases h
  | (j, x) :: l, id, ty, ds, h, hT, c, hc => by
    simp only [lentCells, List.mem_append]
    rw [get_cons] at h
    split at h
    · rename_i e1
      subst e1
      left
      rw [hT]
      exact hc
    · exact .inr (lentCells_mem h hT c hc)
/-- The kind of what a shape unpacks to. -/
def skOk : OSh → Obj → Prop
  | .row _ _ t, o => ∃ e al xs, o = .row e al t xs
  | .box _ _, o => ∃ ty cs, o = .box ty cs
  | .arr _ n t, o => ∃ ty xs, o = .arr ty n t xs
  | .tb _ _ _, o => ∃ ty cs, o = .box ty cs
  | .iter, o => ∃ s p, o = .iter s p
theorem sameKind_box {p q : OSh} {o : Obj} {ty : TypeId} {ds : List C} (hp : skOk p (.box ty ds)) (h : sameKind p q = true) (ho : skOk q o) : ∃ ty2 cs2, o = .box ty2 cs2 := by
  cases p with
  | row _ _ _ => obtain ⟨_, _, _, h⟩ := hp; cases h
  | arr _ _ _ => obtain ⟨_, _, h⟩ := hp; cases h
  | iter => obtain ⟨_, _, h⟩ := hp; cases h
  | box _ _ =>
    cases q with
    | row _ _ _ => cases h
    | arr _ _ _ => cases h
    | iter => cases h
    | box _ _ => exact ho
    | tb _ _ _ => exact ho
  | tb _ _ _ =>
    cases q with
    | row _ _ _ => cases h
    | arr _ _ _ => cases h
    | iter => cases h
    | box _ _ => exact ho
    | tb _ _ _ => exact ho
theorem unpackO_kind {R : Type} : ∀ {x : OSh} {z : OSh.cons R x}, skOk x (unpackO x z).1
  | .row _ _ _, _ => ⟨_, _, _, rfl⟩
  | .box _ _, _ => ⟨_, _, rfl⟩
  | .arr _ _ _, _ => ⟨_, _, rfl⟩
  | .tb _ _ _, _ => ⟨_, _, rfl⟩
  | .iter, _ => ⟨_, _, rfl⟩
theorem unpackObjs_kind : ∀ {xs : List (Nat × OSh)} {z : objsX xs} {i : Nat} {o : Obj}, get (unpackObjs xs z) i = some o → ∃ x, get xs i = some x ∧ skOk x o
  | [], _, _, _, h => by cases h
  | (j, x) :: xs, z, i, o, h => by
    simp only [unpackObjs, get_cons] at h
    rw [get_cons]
    split at h
    · rename_i e1
      cases h
      exact ⟨x, by rw [if_pos e1], unpackO_kind⟩
    · rename_i e1
      rw [if_neg e1]
      exact unpackObjs_kind h
theorem unpackSlots_get {R : Type} : ∀ {xs : List (Nat × VSh)} {z : slotsX R xs} {k : Nat} {x : VSh}, get xs k = some x → ∃ v, get (unpackSlots xs z).1 k = some v ∧ (∀ i off, x = .pt i off → v = .pt i off) ∧ ∀ i, x = .c (.own i) → v = .c (.own i)
  | [], _, _, _, h => by cases h
  | (j, y) :: xs, z, k, x, h => by
    simp only [unpackSlots, get_cons] at h ⊢
    split at h
    · rename_i e1
      cases h
      rw [if_pos e1]
      exact ⟨_, rfl, fun i off h => by subst h; rfl, fun i h => by subst h; rfl⟩
    · rename_i e1
      rw [if_neg e1]
      exact unpackSlots_get h
theorem packO_kind {R : Type} {o : Obj} {r : R} : ∀ {x : OSh} {z : OSh.cons R x}, packO o r x = some z → skOk x o
  | .row e al t, z, h => by
    simp only [packO] at h
    cases o with
    | row e' al' u xs =>
      simp only at h
      rcases ble_of h with ⟨_, h⟩ | ⟨_, h⟩
      · split at h
        · rename_i ys hy
          obtain ⟨rfl, _⟩ := asL_some hy
          exact ⟨_, _, _, rfl⟩
        · cases h
      · cases h
    | _ => cases h
  | .box ty xs, z, h => by
    simp only [packO] at h
    cases o with
    | box ty' cs => exact ⟨_, _, rfl⟩
    | _ => cases h
  | .tb ty al t, z, h => by
    cases o with
    | box ty' cs => exact ⟨_, _, rfl⟩
    | _ => cases h
  | .arr ty n t, z, h => by
    simp only [packO] at h
    cases o with
    | arr ty' m u xs =>
      have h2 : (bif Nat.beq ty ty' && Nat.beq n m then (match asL t u xs with | some ys => some (ys, r) | none => none) else none) = some z := h
      clear h
      cases hbb : (Nat.beq ty ty' && Nat.beq n m) with
      | false => rw [hbb] at h2; cases h2
      | true =>
        rw [hbb] at h2
        simp only [cond_true] at h2
        simp only [Bool.and_eq_true] at hbb
        have := Nat.eq_of_beq_eq_true hbb.2
        subst this
        split at h2
        · rename_i ys hy
          obtain ⟨rfl, _⟩ := asL_some hy
          exact ⟨_, _, rfl⟩
        · cases h2
    | _ => cases h
  | .iter, z, h => by
    cases o with
    | iter xs p => exact ⟨_, _, rfl⟩
    | _ => cases h
theorem packObjs_kind {T : Tab} : ∀ {xs : List (Nat × OSh)} {z : objsX xs}, packObjs T xs = some z → ∀ i x, (i, x) ∈ xs → ∃ o, get T i = some o ∧ skOk x o
  | [], _, _, _, _, hm => by cases hm
  | (j, y) :: xs, z, h, i, x, hm => by
    simp only [packObjs] at h
    split at h
    case h_2 => cases h
    rename_i r' hr'
    split at h
    case h_2 => cases h
    rename_i o ho
    cases hm with
    | head => exact ⟨o, ho, packO_kind h⟩
    | tail _ hm => exact packObjs_kind hr' i x hm
theorem get_mem {α : Type} : ∀ {l : List (Nat × α)} {i : Nat} {x : α}, get l i = some x → (i, x) ∈ l
  | [], _, _, h => by cases h
  | (j, y) :: l, i, x, h => by
    rw [get_cons] at h
    split at h
    · rename_i e1
      cases h
      subst e1
      exact List.mem_cons_self
    · exact List.mem_cons_of_mem _ (get_mem h)
theorem readO_sk {T : Tab} {objs : List (Nat × OSh)} {x : OSh} {o o' : Obj} (h : readO T objs o = some o') (hk : skOk x o') : skOk x o := by
  cases o with
  | row e al t xs =>
    cases h
    cases x with
    | row e2 al2 t2 =>
      obtain ⟨e3, al3, xs3, h⟩ := hk
      cases h
      exact ⟨_, _, _, rfl⟩
    | box _ _ => obtain ⟨_, _, h⟩ := hk; cases h
    | arr _ _ _ => obtain ⟨_, _, h⟩ := hk; cases h
    | tb _ _ _ => obtain ⟨_, _, h⟩ := hk; cases h
    | iter => obtain ⟨_, _, h⟩ := hk; cases h
  | box ty ds =>
    simp only [readO] at h
    split at h
    case h_2 => cases h
    cases h
    cases x with
    | row _ _ _ => obtain ⟨_, _, _, h⟩ := hk; cases h
    | box _ _ => exact ⟨_, _, rfl⟩
    | tb _ _ _ => exact ⟨_, _, rfl⟩
    | arr _ _ _ => obtain ⟨_, _, h⟩ := hk; cases h
    | iter => obtain ⟨_, _, h⟩ := hk; cases h
  | arr ty n t xs =>
    cases h
    exact hk
  | win _ _ _ => cases h
  | iter _ _ => cases h
theorem renAll_spec : ∀ {l : List (Nat × Nat)} {σ : Nat → Value} {s s' : St}, RelS fr σ s a w → renAll l s = some s' → ∃ σ', RelS fr σ' s' a w
  | [], σ, s, s', R, h => by cases h; exact ⟨σ, R⟩
  | (i, j) :: l, σ, s, s', R, h => by
    simp only [renAll] at h
    split at h
    case h_2 => cases h
    rename_i s1 hs
    obtain ⟨σ1, R1⟩ := R.ren hs
    exact renAll_spec R1 h
end

section
variable {ρ : Type} {G : Ctx} {fr : Fr} {σ : Nat → Value} {s : St} {a : Act} {w : World} {o : Oper} {K : V → St → Option ρ} {r : ρ}
theorem goes_callL (R : RelS fr σ s a w) {c : Call} (ho : o.op = .call c) {f : FuncId} (hc : c.callee = .value (.func f)) {F : Fn} (hF : CallOk fr.P f F) {vs : List V} (hvs : evAll s c.args.toList = some vs) (hlen : vs.length ≤ 1000) (hcnt : vs.length = cntB F.din.slots) {d : Nat} (h : callL F s d vs K = some r) : Goes fr o a w K r := by
  intro next Q hnext
  unfold callL at h
  rcases ble_of h with ⟨_, h⟩ | ⟨hchk, h⟩
  · cases h
  simp only [Bool.not_eq_false', Bool.and_eq_true] at hchk
  obtain ⟨⟨hcl, hkeys⟩, hgh⟩ := hchk
  split at h
  case h_1 => cases h
  rename_i s0 hs0
  split at h
  case h_1 => cases h
  rename_i s1 hs1
  split at h
  case h_1 => cases h
  rename_i ve hve
  split at h
  case h_1 => cases h
  rename_i ge hge
  split at h
  case h_1 => cases h
  rename_i e he
  split at h
  case h_1 => cases h
  rename_i T hT
  split at h
  case h_1 => cases h
  rename_i x hx
  split at h
  case h_1 => cases h
  rename_i s2 hs2
  cases hrun : F.run x with
  | none => rw [hrun] at h; cases h
  | some res =>
  rw [hrun] at h
  simp only [Option.bind_some] at h
  split at h
  case h_1 => cases h
  rename_i s3 hs3
  split at h
  case h_1 => cases h
  rename_i v hv
  split at h
  case h_1 => cases h
  rename_i s4 hs4
  split at h
  case h_1 => cases h
  rename_i v' hv'
  obtain ⟨l1, l2⟩ := evAll_spec R hvs
  let us := c.args.toList.map a.eval
  have hul : us.length = vs.length := by simp only [us, List.length_map]; exact l1.symm
  -- the arguments as ghosts of the caller
  let ghA : Nat → Value := fun i => if 2000000 ≤ i then us.getD (i - 2000000) Go.undef else fr.gh i
  have hval2 : ∀ i, i < 2000000 → ({ fr with gh := ghA } : Fr).val a i = fr.val a i := fun i hi => by
    unfold Fr.val
    split
    · rfl
    · simp only [ghA]
      rw [if_neg (by omega)]
  have RA : RelS { fr with gh := ghA } σ ⟨argE 2000000 vs ++ below2 s.env, s.T⟩ a w := R.regh ghA fun i u hi => by
    rcases get_app hi with hi | ⟨_, hi⟩
    · obtain ⟨h1, h2⟩ := argE_get hi
      obtain ⟨y, hy, hV⟩ := l2 _ u h2
      have : ({ fr with gh := ghA } : Fr).val a i = a.eval y := by
        unfold Fr.val
        rw [if_neg (by omega)]
        simp only [ghA]
        rw [if_pos h1]
        have : us[i - 2000000]? = some (a.eval y) := by simp only [us, List.getElem?_map, hy]; rfl
        rw [List.getD_eq_getElem?_getD, this]
        rfl
      rw [this]
      exact hV
    · obtain ⟨h1, h2⟩ := below2_get hi
      rw [hval2 i h1]
      exact R.env i u h2
  obtain ⟨σ0, R0⟩ := RA.claimSlots hs0
  obtain ⟨σ1, R1⟩ := R0.claimBoxes hs1
  have hgs := ghosts_spec hge
  let cs := handed F s1 ve
  let gv : Nat → Value := fun i => match get ge i with
    | some (.pt id _) => σ1 id
    | some (.c (.own id)) => σ1 id
    | _ => Go.undef
  let fr' : Fr := { P := fr.P, w0 := w, FA := Reach { fr with gh := ghA } σ1 s1.T w cs, MB := fun b => ∃ id o, (get F.din.objs id).isSome = true ∧ get s1.T id = some o ∧ blk (σ1 id) = some b, new := fun b => w.heap.size ≤ b ∨ ∃ id o, (get F.din.objs id).isSome = true ∧ get s1.T id = some o ∧ blk (σ1 id) = some b, n := us.length, gh := gv }
  have hown : ∀ id, (get F.din.objs id).isSome = true → C.own id ∈ cs := fun id hid => by
    obtain ⟨y, hy⟩ := get_keys.1 hid
    exact List.mem_append_right _ (List.mem_map.2 ⟨(id, y), hy, rfl⟩)
  have hR0 : RelS fr' σ1 ⟨e, T⟩ ⟨us.toArray, []⟩ w := by
    refine callee_rel R1 (objs := F.din.objs) (cs := cs) (fr' := fr') hT he rfl rfl rfl rfl rfl (by omega) (fun i u hi => ?_) hown (fun id ty ds hid hb c hc => List.mem_append_left _ (List.mem_append_right _ (lentCells_mem hid hb c hc)))
    rcases get_app hi with hi | ⟨_, hi⟩
    · refine ⟨fun c hc => List.mem_append_left _ (List.mem_append_left _ (argCells_get hi c hc)), ?_⟩
      obtain ⟨h1, y, h2⟩ := argVs_spec hve i u hi
      obtain ⟨_, hlt⟩ := parms_mem h2
      have hV := R1.env _ u h1
      have e1 : ({ fr with gh := ghA } : Fr).val a (2000000 + i) = us.getD i Go.undef := by
        unfold Fr.val
        rw [if_neg (by omega)]
        simp only [ghA]
        rw [if_pos (by omega), Nat.add_sub_cancel_left]
      rw [e1] at hV
      have e2 : fr'.val ⟨us.toArray, []⟩ i = us.getD i Go.undef := by
        unfold Fr.val
        rw [if_pos hlt, Array.getD_eq_getD_getElem?, List.getD_eq_getElem?_getD]
        simp
      rw [e2]
      exact hV
    · obtain ⟨y, hy, hk, hcase⟩ := hgs.1 i u hi
      have e2 : fr'.val ⟨us.toArray, []⟩ i = gv i := by
        unfold Fr.val
        rw [if_neg (by omega)]
      rw [e2]
      have hvok := closed_slot hcl hy
      rcases hcase with ⟨id, rfl, rfl, hob⟩ | ⟨id, e', al', t', xs', rfl, rfl, hob⟩
      · refine ⟨fun c hc => by simp [argCells] at hc, ?_⟩
        have e3 : gv i = σ1 id := by simp only [gv, hi]
        rw [e3]
        rcases hob with ⟨ty, ds, hob⟩ | ⟨ty, n, t, xs, hob⟩
        · obtain ⟨g, arr, h1, _⟩ := R1.objs id _ hob
          exact ⟨_, ⟨g, 0, none⟩, hob, by rw [h1]; rfl, rfl, by rw [h1]⟩
        · obtain ⟨g, arr, h1, _⟩ := R1.objs id _ hob
          exact ⟨_, ⟨g, 0, none⟩, hob, by rw [h1]; rfl, rfl, by rw [h1]⟩
      · have e3 : gv i = σ1 id := by simp only [gv, hi]
        rw [e3]
        refine ⟨fun c hc => ?_, ⟨rfl, _, hob⟩⟩
        simp only [argCells, List.mem_singleton] at hc
        subst hc
        exact hown id hvok
  have hR1 := hR0.pack hcl hx
  refine call_wp ho hc hF hrun (fr' := fr') (σ' := σ1) rfl rfl rfl (hul.trans hcnt) hR1 fun w' σo us' hl' Ro => ?_
  have hfz := fun (hal : hasAl F.dout = true) => show freezeAll (otherIds F.din.objs (idsOf cs)) s1 = some s2 by rw [hal] at hs2; exact hs2
  have R2 : RelS { fr with gh := ghA } σ1 s2 a w := by
    cases hal : hasAl F.dout with
    | true => exact R1.freezeAll (hfz hal)
    | false => rw [hal] at hs2; cases hs2; exact R1
  have keep2 : ∀ id, (get F.din.objs id).isSome = true → ∀ o, get s1.T id = some o → ∃ o', get s2.T id = some o' ∧ okind o' = okind o := by
    cases hal : hasAl F.dout with
    | true => exact fun id hid o ho => (freezeAll_keep (hfz hal)).1 id (fun hm => by rw [(otherIds_mem.1 hm).2] at hid; cases hid) o ho
    | false => rw [hal] at hs2; cases hs2; exact fun id _ o ho => ⟨o, ho, rfl⟩
  have back2 : ∀ id o', get s2.T id = some o' → ∃ o, get s1.T id = some o ∧ okind o' = okind o := by
    cases hal : hasAl F.dout with
    | true => exact (freezeAll_keep (hfz hal)).2
    | false => rw [hal] at hs2; cases hs2; exact fun id o ho => ⟨o, ho, rfl⟩
  obtain ⟨frD, hLess, RD, d1, d2, d3, d4⟩ := RelS.dropAll (gb := gbs F.dout.slots) F.din.objs R2
  -- what is given back
  have hback : ∀ i, has (gbs F.dout.slots) i = true → ∃ k x p q, (k, x) ∈ F.dout.slots ∧ 1000000 ≤ k ∧ (x = .pt i 0 ∨ x = .c (.own i)) ∧ get F.din.slots k = some x ∧ get F.din.objs i = some p ∧ get F.dout.objs i = some q ∧ sameKind p q = true := fun i hi => by
    obtain ⟨k, y, hm, hk, hy⟩ := gbs_mem hi
    obtain ⟨id, p, q, h1, h2, h3, h4, h5⟩ := ghEq_spec hgh k y hm hk
    have hid : id = i := by
      rcases hy with ⟨off, rfl⟩ | rfl
      · rcases h1 with h1 | h1
        · cases h1; rfl
        · cases h1
      · rcases h1 with h1 | h1
        · cases h1
        · cases h1; rfl
    subst hid
    exact ⟨k, y, p, q, hm, hk, h1, h2, h3, h4, h5⟩
  have hgbo : ∀ i o, has (gbs F.dout.slots) i = true → get (unpack F.dout res).T i = some o → ∃ o', get (dropAll (gbs F.dout.slots) F.din.objs s2).T i = some o' ∧ okind o' = okind o ∧ σo i = σ1 i := fun i o hi ho => by
    obtain ⟨k, y, p, q, hm, hk, hy, hds, hdp, hdq, hsk⟩ := hback i hi
    have hoR := Ro.objs i o ho
    obtain ⟨q', hq', hsko⟩ := unpackObjs_kind ho
    rw [hdq] at hq'
    cases hq'
    obtain ⟨gvv, hgvv, _, hgcase⟩ := hgs.2 k y hk hds
    -- the object as it was handed over
    obtain ⟨ro, hro, hskp⟩ : ∃ ro, get s1.T i = some ro ∧ skOk p ro := by
      have hpk : pack F.din ⟨e, T⟩ = some x := hx
      unfold pack at hpk
      split at hpk
      case h_2 => cases hpk
      rename_i zz hzz
      obtain ⟨o1, ho1, hk1⟩ := packObjs_kind hzz i p (get_mem hdp)
      have := readT_spec hT i
      rw [hdp] at this
      obtain ⟨oa, ob, h1, h2, h3⟩ := this
      rw [h3] at ho1
      cases ho1
      exact ⟨oa, h1, readO_sk h2 hk1⟩
    have hgk : ({ fr' with n := us'.length } : Fr).val ⟨us'.toArray, []⟩ k = gv k := by
      unfold Fr.val
      rw [if_neg (by omega)]
    obtain ⟨vv, hvv, hsame⟩ := unpackSlots_get (z := res) (numB_get hF.2.1.1 k y hm hk)
    have hV := Ro.env k vv hvv
    rw [hgk] at hV
    have hR1o := R1.objs i ro hro
    obtain ⟨o2, ho2, hk2⟩ := keep2 i (by rw [hdp]; rfl) ro hro
    obtain ⟨o3, ho3, hk3⟩ := d3 i (.inr hi) o2 ho2
    -- the same value, the same kind
    have hfin : okind ro = okind o ∧ σo i = σ1 i := by
      rcases hy with rfl | rfl
      · have hvv' := hsame.1 i 0 rfl
        subst hvv'
        rcases hgcase with ⟨id, h1, rfl, hbx⟩ | ⟨id, _, _, _, _, h1, _⟩
        case inr => cases h1
        cases h1
        have e3 : gv k = σ1 i := by simp only [gv, hgvv]
        rw [e3] at hV
        obtain ⟨ov, a0, _, ha0, hsp, hval⟩ := hV
        rcases hbx with ⟨ty, ds, hbx⟩ | ⟨ty, n, t, xs, hbx⟩
        · rw [hro] at hbx
          cases hbx
          obtain ⟨ty2, cs2, rfl⟩ := sameKind_box hskp hsk hsko
          obtain ⟨g2, arr2, hg2, _⟩ := hoR
          refine ⟨rfl, ?_⟩
          rw [hg2] at ha0
          simp [addr] at ha0
          subst ha0
          rw [hg2, hval]
        · rw [hro] at hbx
          cases hbx
          cases p with
          | row _ _ _ => obtain ⟨_, _, _, h⟩ := hskp; cases h
          | box _ _ => obtain ⟨_, _, h⟩ := hskp; cases h
          | tb _ _ _ => obtain ⟨_, _, h⟩ := hskp; cases h
          | iter => obtain ⟨_, _, h⟩ := hskp; cases h
          | arr tp np tt =>
            obtain ⟨_, _, h⟩ := hskp
            cases h
            cases q with
            | row _ _ _ => cases hsk
            | box _ _ => cases hsk
            | tb _ _ _ => cases hsk
            | iter => cases hsk
            | arr tq nq tt2 =>
              simp only [sameKind, Bool.and_eq_true] at hsk
              have e4 := Nat.eq_of_beq_eq_true hsk.1
              have e5 := Nat.eq_of_beq_eq_true hsk.2
              obtain ⟨ty2, xs2, rfl⟩ := hsko
              obtain ⟨g2, arr2, hg2, _⟩ := hoR
              refine ⟨by simp only [okind, e4, e5], ?_⟩
              rw [hg2] at ha0
              simp [addr] at ha0
              subst ha0
              rw [hg2, hval]
      · have hvv' := hsame.2 i rfl
        subst hvv'
        rcases hgcase with ⟨id, h1, _⟩ | ⟨id, e1, al1, t1, xs1, h1, rfl, hbx⟩
        · cases h1
        cases h1
        have e3 : gv k = σ1 i := by simp only [gv, hgvv]
        rw [e3] at hV
        obtain ⟨hval, _⟩ := hV
        rw [hro] at hbx
        cases hbx
        cases p with
        | box _ _ => obtain ⟨_, _, h⟩ := hskp; cases h
        | tb _ _ _ => obtain ⟨_, _, h⟩ := hskp; cases h
        | arr _ _ _ => obtain ⟨_, _, h⟩ := hskp; cases h
        | iter => obtain ⟨_, _, h⟩ := hskp; cases h
        | row tp ap tt =>
          obtain ⟨_, _, _, h⟩ := hskp
          cases h
          cases q with
          | box _ _ => cases hsk
          | tb _ _ _ => cases hsk
          | arr _ _ _ => cases hsk
          | iter => cases hsk
          | row tq aq tt2 =>
            have e5 := Nat.eq_of_beq_eq_true hsk
            obtain ⟨e6, al6, xs6, rfl⟩ := hsko
            obtain ⟨A1, c1, q1, _⟩ := row_read hR1o (F := fun _ => True) (fun _ _ => trivial) (fun _ _ => trivial)
            obtain ⟨A2, c2, q2, _⟩ := row_read hoR (F := fun _ => True) (fun _ _ => trivial) (fun _ _ => trivial)
            rw [q1, q2] at hval
            simp only [Value.slice.injEq] at hval
            refine ⟨by simp only [okind, e5, hval.2.1], ?_⟩
            rw [q1, q2, hval.1, hval.2.1, hval.2.2]
    exact ⟨o3, ho3, by rw [hk3, hk2, hfin.1], hfin.2⟩
  have hgbs : ∀ i o, has (gbs F.dout.slots) i = true → get (dropAll (gbs F.dout.slots) F.din.objs s2).T i = some o → ∃ o', get (unpack F.dout res).T i = some o' := fun i o hi _ => by
    obtain ⟨k, y, p, q, hm, hk, hy, hds, hdp, hdq, hsk⟩ := hback i hi
    exact unpackObjs_is i (by rw [hdq]; rfl)
  obtain ⟨σ2, R3, crF, ptF⟩ := merge (fr := { fr with gh := ghA }) (ha := hasAl F.dout) (gb := gbs F.dout.slots) RD Ro rfl hLess R.fa R.kept.nmb (fun b hb => by
      obtain ⟨id, o', hid, ho', hbk⟩ := hb
      obtain ⟨o2, ho2, _⟩ := keep2 id hid o' ho'
      refine ⟨((R1.objs id o' ho').lt b hbk).1, ((R1.objs id o' ho').lt b hbk).2, ?_⟩
      cases hg : has (gbs F.dout.slots) id with
      | true =>
        obtain ⟨o3, ho3, _⟩ := d3 id (.inr hg) o2 ho2
        exact .inl ⟨id, o3, hg, ho3, hbk⟩
      | false => exact .inr ((d1 id hid hg).1 o2 b ho2 hbk)) (fun b hb => .inr hb) (fun b i o' hb ho' hbk => by
      obtain ⟨id, o1, hid, ho1, hbk1⟩ := hb
      obtain ⟨o2, ho2, _⟩ := d2 i o' ho'
      obtain ⟨o3, ho3, _⟩ := back2 i o2 ho2
      have : i = id := Classical.byContradiction fun hne => R1.dist i o3 id o1 ho3 ho1 hne b hbk hbk1
      subst this
      cases hg : has (gbs F.dout.slots) i with
      | true => rfl
      | false =>
        rw [(d1 i hid hg).2] at ho'
        cases ho') hgbo hgbs
      (fun id o' hi hf => by
        have := unpackObjs_flag hi hf
        simp only [hasAl, this, Bool.or_true]) (fun hha b hb => by
        have hf2 := freezeAll_foot R1 (hfz hha)
        rcases hb with hb | ⟨i, hi, oi, hoi, hbk⟩
        · exact .inl (d4 _ b (hf2.1 _ b hb))
        · cases hg : get F.din.objs i with
          | some y => exact .inr ⟨i, oi, by rw [hg]; rfl, hoi, hbk⟩
          | none => exact .inl (Foot.up (by simp) (d4 _ b (hf2.2 i (otherIds_mem.2 ⟨hi, hg⟩) oi hoi b hbk)))) hs3
  have hVv := resE_spec (ha := hasAl F.dout) crF ptF (numE_of hF.2.1.1) (by rw [hl']; exact (cntE_of (xs := F.dout.slots) (z := res)).symm) (fun i u hm c hc hf => by
      have := unpackSlots_flag hm hc hf
      simp only [hasAl, this, Bool.true_or]) (fun i u hm hi => by
      have := Ro.env i u (num_get (numE_of hF.2.1.1) i u hm hi)
      unfold Fr.val at this
      rw [if_pos hi] at this
      rw [Array.getD_eq_getD_getElem?] at this
      rw [List.getD_eq_getElem?_getD]
      simpa using this) hv
  -- the result as a ghost, while what was given back takes its numbers
  let ghB : Nat → Value := fun i => if i = 2999999 then retV us' else ghA i
  have RB : RelS { fr with gh := ghB } σ2 ⟨(2999999, v) :: s3.env, s3.T⟩ a w' := R3.regh (fr := { fr with gh := ghA }) ghB fun i u hi => by
    rw [get_cons] at hi
    split at hi
    · rename_i e1
      cases hi
      subst e1
      have : ({ fr with gh := ghB } : Fr).val a 2999999 = retV us' := by
        unfold Fr.val
        rw [if_neg (by omega)]
        simp only [ghB, if_true]
      show VR _ σ2 s3.T w' v (({ fr with gh := ghB } : Fr).val a 2999999)
      rw [this]
      exact hVv
    · rename_i e1
      have : ({ fr with gh := ghB } : Fr).val a i = ({ fr with gh := ghA } : Fr).val a i := by
        unfold Fr.val
        simp only [ghB]
        split
        · rfl
        · rw [if_neg (Ne.symm e1)]
      show VR _ σ2 s3.T w' u (({ fr with gh := ghB } : Fr).val a i)
      rw [this]
      exact R3.env i u hi
  obtain ⟨σ3, R4⟩ := renAll_spec RB hs4
  have hv4 := R4.env 2999999 v' hv'
  have hval4 : ({ fr with gh := ghB } : Fr).val a 2999999 = retV us' := by
    unfold Fr.val
    rw [if_neg (by omega)]
    simp only [ghB, if_true]
  rw [hval4] at hv4
  have R5 : RelS { fr with gh := fr.gh } σ3 ⟨below2 s4.env, s4.T⟩ a w' := R4.regh (fr := { fr with gh := ghB }) fr.gh fun i u hi => by
    obtain ⟨h1, h2⟩ := below2_get hi
    have : ({ fr with gh := fr.gh } : Fr).val a i = ({ fr with gh := ghB } : Fr).val a i := by
      unfold Fr.val
      simp only [ghB, ghA]
      split
      · rfl
      · rw [if_neg (by omega), if_neg (by omega)]
    show VR _ σ3 s4.T w' u (({ fr with gh := fr.gh } : Fr).val a i)
    rw [this]
    exact R4.env i u h2
  exact hnext v' ⟨below2 s4.env, s4.T⟩ σ3 _ w' h R5 (VR.ungh hv4)
theorem goes_call (R : RelS fr σ s a w) {c : Call} (ho : o.op = .call c) {f : FuncId} (hc : c.callee = .value (.func f)) {F : Fn} (hF : CallOk fr.P f F) {vs : List V} (hvs : evAll s c.args.toList = some vs) {d : Nat} (h : callK F s d vs K = some r) : Goes fr o a w K r := by
  unfold callK at h
  rcases ble_of h with ⟨hl, h⟩ | ⟨_, h⟩
  · simp only [Bool.and_eq_true] at hl
    have hct := Nat.eq_of_beq_eq_true hl.2
    have hl := Nat.le_of_ble_eq_true hl.1
    rcases ble_of h with ⟨_, h⟩ | ⟨_, h⟩
    · exact goes_callR R ho hc hF hvs hl hct h
    · exact goes_callL R ho hc hF hvs hl hct h
  · cases h
end
end Go.Proofs.YtkadllkeekoopaaGreat.Abs
end

section
namespace Go.Proofs.YtkadllkeekoopaaGreat.Abs
open Go.RowKit

section
variable {ρ : Type} {G : Ctx} {fr : Fr} {σ : Nat → Value} {s : St} {a : Act} {w : World} {o : Oper} {K : V → St → Option ρ} {r : ρ}

/-! ## A cut with a capacity -/
theorem run_slice_cap {P : Program} {t e : TypeId} {j : TypeInfo} (hu : P.underlying t = some (.slice e)) (hj : P.info? e = some j) (A : Option Addr) (hA : A = none ∨ ∃ g, A = some ⟨g, 0, none⟩) (len cap h m : Nat) (k1 k2 : IntKind) (hhm : h ≤ m) (hc : m ≤ cap) (w : World) :
    (Instr.sliceAt t (.slice A len cap) none (some (.int k1 (h : Int))) (some (.int k2 (m : Int)))).run P w = .ok (.slice A h m) w := by
  have b1 : ∀ k (y : Nat) (code : BoundsCode), h ≤ y → (Instr.sliceBound (.int k (h : Int)) y code).run P w = .ok h w := fun k y code hy => by
    have := run_sliceBound (P := P) w k (h : Int) y code (by omega) (by omega)
    simpa using this
  have b2 : ∀ k (y : Nat) (code : BoundsCode), m ≤ y → (Instr.sliceBound (.int k (m : Int)) y code).run P w = .ok m w := fun k y code hy => by
    have := run_sliceBound (P := P) w k (m : Int) y code (by omega) (by omega)
    simpa using this
  rcases hA with rfl | ⟨g, rfl⟩ <;>
    simp [Instr.sliceAt, Instr.slice, Instr.sliceBounds, run_underlying hu, sizeOf, typeInfo, hj, b1, b2, hhm, hc, Addr.add]
theorem goes_sliceCap (R : RelS fr σ s a w) (H : TIs fr.P G) {t : TypeId} {x y z : Operand} (ho : o.op = .slice t x none (some y) (some z)) {id : Nat} (hv : ev s x = some (.c (.own id))) {n h m : Int} (hn : lenO s.T (eszS G t) id = some n) (hh : evI s y = some h) (hm : evI s z = some m)
    (hb : 0 ≤ h ∧ h ≤ m ∧ m ≤ n) (hK : K (.cap id h.toNat) s = some r) : Goes fr o a w K r := by
  obtain ⟨e0, al, τ, xs, hT, hz, hxs⟩ := lenO_of hn
  obtain ⟨e, j, hu, hj, hjs⟩ := eszS_of H hz
  have hV := ev_spec R hv
  obtain ⟨hσ, _⟩ := hV
  obtain ⟨k1, hy⟩ := evI_spec R hh
  obtain ⟨k2, hz'⟩ := evI_spec R hm
  obtain ⟨h', rfl⟩ := Int.eq_ofNat_of_zero_le hb.1
  obtain ⟨m', rfl⟩ := Int.eq_ofNat_of_zero_le (Int.le_trans hb.1 hb.2.1)
  have ex : ∀ u, (Instr.sliceAt t (a.eval x) none (some (a.eval y)) (some (a.eval z))).run fr.P w = .ok u w → (execOp a.eval o).run fr.P w = .ok (.value u) w := fun u hu => by
    simp only [execOp, ho, Option.map_none, Option.map_some, Sem.run_bind, hu, Result.andThen_ok, Sem.run_pure]
  rw [hy, hz', hσ] at ex
  rcases row_value (R.objs id _ hT) with ⟨rfl, hval⟩ | ⟨g, cap, hval, hcap⟩
  · simp at hxs
    have h0 : h' = 0 := by omega
    have m0 : m' = 0 := by omega
    subst h0 m0
    rw [hval] at ex
    exact Goes.val (ex _ (run_slice_cap hu hj none (.inl rfl) 0 0 0 0 k1 k2 (by omega) (by omega) w)) hK R ⟨_, none, 0, 0, 0, hT, hval, Nat.le_refl _, rfl, Nat.le_refl _, Nat.le_refl _⟩
  · rw [hval] at ex
    have h1 : h' ≤ m' := by omega
    have h2 : m' ≤ xs.length := by omega
    exact Goes.val (ex _ (run_slice_cap hu hj _ (.inr ⟨g, rfl⟩) xs.length cap h' m' k1 k2 h1 (by omega) w)) hK R ⟨_, _, xs.length, cap, m', hT, hval, by simp; omega, rfl, by simpa using h1, by omega⟩

/-! ## append onto it -/
theorem run_append_cut {P : Program} (w : World) (base : Nat) (t0 t1 ty e : TypeId) (i : TypeInfo) (z : Value) (d1 : TypeDesc) (ht : P.underlying t0 = some (.slice e)) (ht1 : P.underlying t1 = some d1) (hd1 : ∀ k, d1 ≠ .int k) (hi : P.info? e = some i) (hz : i.zero = some z) (hzs : z.cells.size = i.size)
    (A : Option Addr) (c c' : Nat) (n : Nat) (xs : List Value) (hown : w.ownsRow base e i.size (.slice A n c) n xs) (hnc : n ≤ c') (hcc : c' ≤ c) (x : Value) (m : Nat) (hm : ∀ w', (Builtin.lenOf x).run P w' = .ok m w') (news : List Value) (hl : news.length = m * i.size)
    (hf : ∀ w', w'.heap = w.heap → (Builtin.firstCells i.size m x).run P w' = .ok news.toArray w') (h1 : ∀ u ∈ news, u.oneCell' = true)
    (h63 : n + m ≤ maxLen) (hbytes : (n + m) * i.bytes ≤ 140737488355328) (hbase : base ≤ w.heap.size) :
    ∃ A1 c1 c2 w', (Builtin.append_ #[t0, t1] ty #[.slice A n c', x]).run P w = .ok (.slice A1 (n + m) c2) w' ∧ n + m ≤ c2 ∧ w'.ownsRow base e i.size (.slice A1 (n + m) c1) (n + m) (xs ++ news) ∧ w.grownBy w' (Value.slice A n c).ownBlock ∧ (∀ b, blk (.slice A1 (n + m) c1) = some b → blk (.slice A n c) = some b ∨ w.heap.size ≤ b) := by
  have hsmall : n + m ≤ 9223372036854775807 := by simp only [maxLen] at h63; omega
  have hlen : (xs ++ news).length = (n + m) * i.size := by rw [List.length_append, hown.1, hl, Nat.add_mul]
  have hmw := hm w
  rcases hown.2 with ⟨hv, hn0⟩ | ⟨g, cap, cur, hv, hbg, hg, hnc2, hcm, hcs, htake⟩
  · simp only [Value.slice.injEq] at hv
    obtain ⟨rfl, rfl, rfl⟩ := hv
    have hc0 : c' = 0 := by omega
    subst hc0
    obtain ⟨v', w', hr, ho, hgr, hbk⟩ := run_append_any w base t0 t1 ty e i z d1 ht ht1 hd1 hi hz hzs (.slice none 0 0) 0 xs hown x m hm news hl hf h1 h63 hbytes hbase
    rcases ho.2 with ⟨rfl, h0⟩ | ⟨g, cap, cur, rfl, q1, q2, q3, q4⟩
    · rw [h0] at ho ⊢
      exact ⟨none, 0, 0, w', hr, Nat.le_refl _, ho, hgr, hbk⟩
    · exact ⟨_, cap, cap, w', hr, q3, ho, hgr, hbk⟩
  · simp only [Value.slice.injEq] at hv
    obtain ⟨rfl, _, rfl⟩ := hv
    by_cases hroom : n + m ≤ c'
    · have hfit : n * i.size + news.length ≤ cur.size := by rw [hl, hcs, ← Nat.add_mul]; exact Nat.mul_le_mul_right _ (by omega)
      have hst := run_storeCells_at P g (n * i.size) e news 0 cur w hg (by simpa using hfit) h1
      simp only [Nat.add_zero] at hst
      have hf0 := hf w rfl
      refine ⟨some ⟨g, 0, none⟩, c, c', w.setRow g (cur.toList.take (n * i.size) ++ news ++ cur.toList.drop (n * i.size + news.length)).toArray, ?_, hroom, ⟨hlen, .inr ⟨g, c, _, rfl, hbg, setRow_heap w g cur _ e _ hg, by omega, hcm, ?_, ?_⟩⟩, ⟨rfl, rfl, rfl, by simp, fun k _ hk => setRow_other w g k _ (fun e => hk (by simp [Value.ownBlock, e]))⟩, fun b hb => .inl hb⟩
      · simp [Builtin.append_, run_underlying ht, run_underlying ht1, sizeOf, typeInfo, hi, hmw, hroom, hf0, Addr.add_lit, hst]
      · simp only [List.size_toArray, List.length_append, List.length_take, List.length_drop, Array.length_toList]
        omega
      · rw [htake, ← hlen]
        exact List.take_left
    · have holds : ∀ j u, xs[j]? = some u → w.cell? ((⟨g, 0, none⟩ : Addr).add j) = some u := hown.cells (g := g) rfl
      have hfo := run_firstCells_some (P := P) w.drew i.size n ⟨g, 0, none⟩ n c' xs hown.1 (by simpa using holds)
      have h63' : ¬ (9223372036854775807 < ((n : Int) + (m : Int))) := by omega
      have h48' : ¬ (281474976710656 < Builtin.nextslicecap (n + m) c' * i.bytes) := by
        have := growslice_fits (old := c') (need := n + m) (by omega) hbytes
        omega
      have hfd := hf w.drew rfl
      have hge := grownCap_ge w (n + m) c' e
      have hcm2 : grownCap w (n + m) c' e ≤ maxLen := grownCap_le_maxLen w (n + m) c' e h63
      refine ⟨some ⟨w.heap.size, 0, none⟩, grownCap w (n + m) c' e, grownCap w (n + m) c' e, w.drew.alloc (.cells (xs.toArray ++ news.toArray ++ Builtin.zeroCells z.cells (grownCap w (n + m) c' e - (n + m))) e), ?_, hge, ?_, ?_, fun b hb => .inr (by simp [blk] at hb; omega)⟩
      · simp [Builtin.append_, run_underlying ht, run_underlying ht1, sizeOf, typeInfo, zeroValue, hi, hz, hmw, hroom, h63', h48', Question.forced, hfd, hfo, newRow, grownCap]
        try (congr 2; apply Array.ext'; simp [List.append_assoc])
      · refine ⟨hlen, .inr ⟨w.heap.size, _, _, rfl, hbase, heap_alloc_new w.drew _, hge, hcm2, ?_, ?_⟩⟩
        · simp only [Array.size_append, List.size_toArray, size_zeroCells, hzs, hown.1, hl, ← Nat.add_mul]
          congr 1
          omega
        · simp only [Array.toList_append, List.append_assoc]
          rw [← List.append_assoc, ← hlen]
          exact List.take_left
      · exact ⟨rfl, rfl, rfl, by simp, fun k hk _ => heap_alloc_old w.drew _ k hk⟩

theorem KF.recap {w : World} {F : Nat → Prop} {t : Ty} {xs : List t.den} {A : Option Addr} {n c c' : Nat} (h : KF w F (.sl t) xs [.slice A n c]) (hc : n ≤ c') : KF w F (.sl t) xs [.slice A n c'] := by
  obtain ⟨A1, c1, h1, h2, h3⟩ := h
  simp only [List.cons.injEq, Value.slice.injEq, and_true] at h1
  obtain ⟨rfl, rfl, rfl⟩ := h1
  exact ⟨A, c', rfl, hc, h3⟩

theorem goes_appendCap (R : RelS fr σ s a w) (H : TIs fr.P G) {c : Call} (ho : o.op = .call c) (hc : c.callee = .builtin .append) {id k : Nat} {src : C} (hx : evAll s c.args.toList = some [.cap id k, .c src]) {t0 t1 : TypeId} (ht : c.argTypes.toList = [t0, t1]) {e : TypeId} {t : Ty} (hE : slE G t0 = some (e, t)) (hz : t.size ≠ 0) (hb : (tiOf G e).bytes ≠ 0)
    {ys : List t.den} (hcy : cont s.T t src = some ys) (hst : (slE G t1).isSome = true) (h : appendCap s e t (tiOf G e).bytes id k ys (t.hasSl && alOf s.T [src]) K = some r) : Goes fr o a w K r := by
  obtain ⟨x, y, hxy, hv, hv'⟩ := evAll_two R hx
  have hat : c.argTypes = #[t0, t1] := by rw [← Array.toArray_toList (xs := c.argTypes), ht]
  have ex := exec_builtin (a := a) ho hc
  have fin : ∀ {u w' u' s' σ'}, (Builtin.append_ #[t0, t1] o.type #[a.eval x, a.eval y]).run fr.P w = .ok u w' → K u' s' = some r → RelS fr σ' s' a w' → VR fr σ' s'.T w' u' u → Goes fr o a w K r := fun hr hK R' hV => by
    refine Goes.val ?_ hK R' hV
    rw [ex, hxy, hat]
    simp only [builtin, List.map_toArray, List.map_cons, List.map_nil, Sem.run_bind, hr, Result.andThen_ok, Sem.run_pure]
  obtain ⟨news, S⟩ := Src.slice R hcy hv'
  cases hs1 : slE G t1 with
  | none => rw [hs1] at hst; cases hst
  | some p =>
    obtain ⟨e1, u1⟩ := p
    have ht1 := (slE_of H hs1).1
    obtain ⟨hu0, hte⟩ := slE_of H hE
    obtain ⟨f, dd, z, hf, _, hs, hby, hzz, hZ, _⟩ := hte.ex
    have hzs : z.cells.size = f.size := by
      have := KF.len t _ _ (hZ.kf w (fun _ => False))
      rw [Array.length_toList] at this
      rw [this, hs]
    have hone := ones R S.len (by omega) S.kf
    have max_of : ∀ n, n * (tiOf G e).bytes ≤ 140737488355328 → n ≤ maxLen := fun n hn => by
      have : n * 1 ≤ n * (tiOf G e).bytes := Nat.mul_le_mul_left _ (by omega)
      simp only [maxLen]
      omega
    have base := Nat.zero_le w.heap.size
    unfold appendCap at h
    split at h
    case h_2 => cases h
    rename_i e' al0 u xs0 hT
    split at h
    case h_2 => cases h
    rename_i xs hxs
    obtain ⟨rfl, hxs⟩ := asL_some hxs
    have hxs : xs = xs0 := hxs
    subst hxs
    rcases ble_of h with ⟨he, h'⟩ | ⟨_, h'⟩
    case inr => cases h'
    have he := Nat.eq_of_beq_eq_true he
    subst he
    split at h'
    case isFalse => cases h'
    rename_i hbd
    split at h'
    case h_2 => cases h'
    rename_i s' hfr
    obtain ⟨inner, hown, hnw, hk⟩ := R.objs id _ hT
    obtain ⟨o1, A, n1, cap, c', ho1, hσ, hkn, hval, hkc, hcc⟩ := hv
    rw [hT] at ho1
    cases ho1
    rw [hval] at fin
    have hlen : n1 = xs.length := by
      rcases hown.2 with ⟨h, h2⟩ | ⟨g, cap, cur, h, _⟩
      · rw [hσ] at h
        simp only [Value.slice.injEq] at h
        omega
      · rw [hσ] at h
        simp only [Value.slice.injEq] at h
        omega
    have hle : k * u.size ≤ xs.length * u.size := Nat.mul_le_mul_right _ (by omega)
    have ho' : w.ownsRow 0 e u.size (.slice A k cap) k (inner.take (k * u.size)) := by
      refine ⟨by rw [List.length_take, hown.1]; omega, ?_⟩
      rcases hown.2 with ⟨h, h2⟩ | ⟨g, cap, cur, h, hb, hh, hnc, hcm, hcs, htk⟩
      · rw [hσ] at h
        simp only [Value.slice.injEq] at h
        exact .inl ⟨by rw [h.1, h.2.2, show k = 0 by omega], by omega⟩
      · rw [hσ] at h
        simp only [Value.slice.injEq] at h
        refine .inr ⟨g, cap, cur, by rw [h.1, h.2.2], hb, hh, by omega, hcm, hcs, ?_⟩
        rw [← htk, List.take_take]
        congr 1
        omega
    obtain ⟨A1, c1, c2, w', hr, hc2, hown', hg, hbk⟩ := run_append_cut (P := fr.P) w 0 t0 t1 o.type e f z _ hu0 ht1 (fun k hk => by cases hk) hf hzz hzs A cap c' k _ (by rw [hs]; exact ho') hkc hcc (a.eval y) ys.length S.lenOf news (by rw [hs]; exact S.len) (by rw [hs]; exact S.first) hone (max_of _ hbd) (by rw [hby]; exact hbd) base
    have hbe : blk (.slice A k cap) = blk (σ id) := by rw [hσ]; cases A <;> rfl
    rw [blk_own ⟨_, _, _, rfl⟩, hbe] at hg
    rw [hbe] at hbk
    rw [hs] at hown'
    have hft := moved_foot R (ob' := .row e (al0 || (u.hasSl && alOf s.T [src])) u (xs.take k ++ ys)) hT hg hbk
    have hlt : (xs.take k).length = k := by rw [List.length_take]; omega
    have R' := R.moved hT (o' := .row e (al0 || (u.hasSl && alOf s.T [src])) u (xs.take k ++ ys)) hg hbk ⟨inner.take (k * u.size) ++ news, by rw [upd_same, List.length_append, hlt]; exact hown', fun b hb => by rw [upd_same] at hb; exact (hbk b hb).elim (hnw b) (fun h => R.kept.fresh b h), inner_app (by rw [hlt]; exact ho'.1)
      (fun i y hi => by
        rw [List.getElem?_take] at hi
        split at hi
        · rename_i hil
          have := KF.imp (fun b hb => hft (al0 || (u.hasSl && alOf s.T [src])) b (Foot.up (fun h => by simp [h]) hb)) u y _ (hk i y hi)
          have hle2 : (i + 1) * u.size ≤ k * u.size := Nat.mul_le_mul_right _ hil
          rw [Nat.add_mul, Nat.one_mul] at hle2
          have e : (((inner.take (k * u.size)).drop (i * u.size)).take u.size) = (inner.drop (i * u.size)).take u.size := by
            apply List.ext_getElem?
            intro p
            rw [List.getElem?_take, List.getElem?_take]
            by_cases hp : p < u.size
            · rw [if_pos hp, if_pos hp, List.getElem?_drop, List.getElem?_take, if_pos (by omega), List.getElem?_drop]
            · rw [if_neg hp, if_neg hp]
          rw [e]
          exact this
        · cases hi) (fun i y hi => KF.imp (fun b hb => hft _ b (Foot.up (fun h => by simp [h]) hb)) u y _ (S.kf i y hi))⟩
    have hT' : get (setO id (.row e (al0 || (u.hasSl && alOf s.T [src])) u (xs.take k ++ ys)) (purge id s)).T id = some (.row e (al0 || (u.hasSl && alOf s.T [src])) u (xs.take k ++ ys)) := by simp [setO, get_cons]
    have RF := R'.freeze hfr
    have hff := freeze_foot2 R' hfr
    have hW := row_whole (R'.objs id _ hT') (F := Foot fr (upd σ id (.slice A1 (k + ys.length) c1)) s'.T w' (al0 || (u.hasSl && alOf s.T [src]))) ?_ ?_
    · rw [upd_same] at hW
      refine fin hr h' RF (?_ : KF w' _ (.sl u) (xs.take k ++ ys) [_])
      exact KF.recap hW hc2
    · exact fun b hb => hff.1 _ b hb
    · exact fun b hb => Foot.up (fun h => by cases h) (hff.2.1 b hb)

/-! ## A walk over a string -/
theorem goes_range (R : RelS fr σ s a w) (H : TIs fr.P G) {d : Nat} {t : TypeId} {x : Operand} (ho : o.op = .range t x) (hs : isStrT G t = true) {xs : List UInt8} (hv : evC s x = some (.str xs)) {s' : St} (hn : newO d (.iter xs 0) s = some s') (hK : K (.pt d 0) s' = some r) : Goes fr o a w K r := by
  have hu := isStrT_of H hs
  obtain ⟨bs, hx, hbs⟩ := evC_spec R hv
  have hr : (execOp a.eval o).run fr.P w = .ok (.value (.pointer (some ⟨w.heap.size, 0, none⟩))) (w.alloc (.stringIter bs 0)) := by
    simp [execOp, ho, Instr.range, hx, run_underlying hu]
  have hv : ∀ b, blk (.pointer (some ⟨w.heap.size, 0, none⟩)) = some b → w.heap.size ≤ b := fun b hb => by simp [blk] at hb; omega
  obtain ⟨hm, hg⟩ := R.newMv hn (below_alloc w (.stringIter bs 0)) hv
  have R' := R.new hn (below_alloc w (.stringIter bs 0)) hv ⟨w.heap.size, bs, by rw [upd_same], R.kept.fresh _ (Nat.le_refl _), heap_alloc_new w _, hbs⟩
  exact Goes.val hr hK R' ⟨_, ⟨w.heap.size, 0, none⟩, hg, by rw [upd_same]; rfl, rfl, rfl⟩
theorem goes_next (R : RelS fr σ s a w) {x : Operand} (ho : o.op = .next x true) {id : Nat} (hv : ev s x = some (.pt id 0)) {xs : List UInt8} {p : Nat} (hT : get s.T id = some (.iter xs p))
    (h : (p < xs.length ∧ K (.tup [(false, [.bool true]), (false, [.int .i64 (p : Int)]), (false, [.int .i32 ((dec xs p).1 : Int)])]) (setO id (.iter xs (p + (dec xs p).2)) s) = some r) ∨ (¬ p < xs.length ∧ K (.tup [(false, [.bool false])]) s = some r)) : Goes fr o a w K r := by
  obtain ⟨g, bs, hσ, hnw, hh, rfl⟩ := R.objs id _ hT
  obtain ⟨o1, a0, ho1, ha, hsp, hx⟩ := ev_spec R hv
  rw [hσ] at ha
  cases ha
  have hsz : bs.data.toList.length = bs.size := rfl
  rcases h with ⟨hp, hK⟩ | ⟨hp, hK⟩
  · rw [hsz] at hp
    have hr : (execOp a.eval o).run fr.P w = .ok (.value (.tuple #[.bool true, .int .i64 (p : Int), .int .i32 ((dec bs.data.toList p).1 : Int)])) (w.iterAt g bs (p + (dec bs.data.toList p).2)) := by
      simp only [execOp, ho, hx, Nat.add_zero, Sem.run_bind, Lib.run_next_any_at w g bs p o.type hh hp, Result.andThen_ok, Sem.run_pure]
      rfl
    have hg : w.grownBy (w.iterAt g bs (p + (dec bs.data.toList p).2)) (blk (σ id)) := ⟨rfl, rfl, rfl, Nat.le_of_eq (Lib.iterAt_size ..).symm, fun k _ hk => Lib.iterAt_other w g k bs _ (fun e => hk (by rw [hσ, e]; rfl))⟩
    have R' := R.set hT (o' := .iter bs.data.toList (p + (dec bs.data.toList p).2)) rfl hg ⟨g, bs, hσ, hnw, Lib.iterAt_heap w g bs p _ hh, rfl⟩
    exact Goes.val hr hK R' ⟨_, rfl, ⟨_, rfl, rfl⟩, ⟨_, rfl, rfl⟩, ⟨_, rfl, rfl⟩, trivial⟩
  · rw [hsz] at hp
    have hr : (execOp a.eval o).run fr.P w = .ok (.value (.tuple #[.bool false])) w := by
      simp only [execOp, ho, hx, Nat.add_zero, Sem.run_bind, Lib.run_next_end_at w g bs p o.type hh hp, Result.andThen_ok, Sem.run_pure]
    exact Goes.val hr hK R ⟨_, rfl, ⟨_, rfl, rfl⟩, trivial⟩
end
end Go.Proofs.YtkadllkeekoopaaGreat.Abs
end

section
namespace Go.Proofs.YtkadllkeekoopaaGreat.Abs
open Go.RowKit

section
variable {ρ : Type} {G : Ctx} {fr : Fr} {σ : Nat → Value} {s : St} {a : Act} {w : World} {o : Oper} {K : V → St → Option ρ} {r : ρ}

theorem beq0 {n : Nat} (h : (Nat.beq n 0) = false) : n ≠ 0 := fun e => by rw [e] at h; cases h

theorem goes_builtin (R : RelS fr σ s a w) (H : TIs fr.P G) {c : Call} (ho : o.op = .call c) {b : Builtin} (hc : c.callee = .builtin b) {vs : List V} (hvs : evAll s c.args.toList = some vs) {d : Nat} (h : builtinK G s d b c.argTypes.toList vs K = some r) : Goes fr o a w K r := by
  unfold builtinK at h
  split at h
  · rename_i x
    split at h
    · rename_i t ht
      exact goes_len R H ho hc hvs ht h
    · cases h
  · exact goes_minmax R false ho hc hvs h
  · exact goes_minmax R true ho hc hvs h
  · rename_i dst src
    split at h
    case h_2 => cases h
    rename_i t0 t1 hat
    split at h
    case h_2 => cases h
    rename_i e t hE
    rcases ble_of h with ⟨_, h'⟩ | ⟨hz, h'⟩
    · cases h'
    · simp only [Bool.or_eq_false_iff] at hz
      refine goes_append (d := d) R H ho hc hvs hat hE (beq0 hz.1) (beq0 hz.2) ?_
      split at h'
      · split at h'
        · rcases ble_of h' with ⟨h1, h2⟩ | ⟨_, h2⟩
          · exact .inl ⟨_, rfl, rfl, h1, h2⟩
          · cases h2
        · cases h'
      · split at h'
        · rename_i ys hy
          rcases ble_of h' with ⟨h1, h2⟩ | ⟨_, h2⟩
          · exact .inr ⟨ys, hy, h1, h2⟩
          · cases h2
        · cases h'
  · rename_i id k src
    split at h
    case h_2 => cases h
    rename_i t0 t1 hat
    split at h
    case h_2 => cases h
    rename_i e t hE
    rcases ble_of h with ⟨_, h'⟩ | ⟨hz, h'⟩
    · cases h'
    · simp only [Bool.or_eq_false_iff] at hz
      split at h'
      case h_2 => cases h'
      rename_i ys hy
      rcases ble_of h' with ⟨h1, h2⟩ | ⟨_, h2⟩
      · exact goes_appendCap R H ho hc hvs hat hE (beq0 hz.1) (beq0 hz.2) hy h1 h2
      · cases h2
  · cases h

theorem opK_sound (R : RelS fr σ s a w) (H : TIs fr.P G) (HC : ∀ f F, get G.calls f = some F → CallOk fr.P f F) (h : opK G o s K = some r) : Goes fr o a w K r := by
  unfold opK at h
  simp only [] at h
  split at h
  · rename_i x ho; exact goes_move R (.inl ho) h
  · rename_i x ho; exact goes_move R (.inr ho) h
  · rename_i x ho
    split at h
    · rename_i hv; exact goes_nilCheck R ho hv (.inl ⟨_, _, rfl⟩) h
    · rename_i hv; exact goes_nilCheck R ho hv (.inr ⟨_, _, _, rfl⟩) h
    · cases h
  · rename_i c x y ho
    split at h
    case h_2 => cases h
    rename_i b hc
    have h1 := fun v (hv : ev s x = some v) => ev_spec R hv
    have h2 := fun v (hv : ev s y = some v) => ev_spec R hv
    generalize hx : ev s x = px at h
    generalize hy : ev s y = py at h
    split at h
    · refine goes_pick R ho hc ?_ h
      have h1 := h1 _ hx
      have h2 := h2 _ hy
      split
      · exact h1
      · exact h2
    · exact goes_pick R ho hc (by simpa using h1 _ hx) h
    · exact goes_pick R ho hc (by simpa using h2 _ hy) h
    · cases h
  · rename_i op t x y t' ho
    split at h
    case h_2 => cases h
    rename_i v hv
    split at h
    case h_2 => cases h
    rename_i v' hv'
    exact goes_bin R H ho hv hv' h
  · rename_i op t x ho
    exact goes_un R ho h
  · rename_i src dst x ho
    rcases ble_of h with ⟨_, h'⟩ | ⟨hs, h'⟩
    · cases h'
    · split at h'
      · rename_i hv
        split at h'
        · rename_i hd
          exact goes_convert_int R H ho hs hv hd h'
        · cases h'
      · rename_i hv
        split at h'
        · rename_i hd
          exact goes_convert_str R H ho hs hv hd h'
        · rename_i hd
          rcases ble_of h' with ⟨hb, h2⟩ | ⟨_, h2⟩
          · simp only [Bool.and_eq_true] at hb
            exact goes_convert_bytes R H ho hv hb.1 hb.2 h2
          · cases h2
        · cases h'
      · rename_i id hv
        rcases ble_of h' with ⟨_, h2⟩ | ⟨hb, h2⟩
        · cases h2
        · split at h2
          · rename_i hd
            split at h2
            · rename_i xs hxs
              exact goes_convert_text R H ho hv (by simpa using hb) hd hxs h2
            · cases h2
          · rcases ble_of h2 with ⟨hb2, h3⟩ | ⟨_, h3⟩
            · clear h2
              simp only [Bool.and_eq_true] at hb2
              have he := Nat.eq_of_beq_eq_true hb2.1
              subst he
              split at h3
              · rename_i e al t y ys hT
                split at h3
                · rename_i s' hf
                  exact goes_convert_same R H ho hv hb2.2 hT hf h3
                · cases h3
              · cases h3
            · cases h3
          · cases h2
      · rename_i hv
        rcases ble_of h' with ⟨_, h2⟩ | ⟨hb, h2⟩
        · cases h2
        · split at h2
          · rename_i hd
            split at h2
            · rename_i xs hxs
              exact goes_convert_text R H ho hv (by simpa using hb) hd hxs h2
            · cases h2
          · cases h2
      · cases h'
  · rename_i t x lo hi ho
    split at h
    case h_2 => cases h
    rename_i v hv
    split at h
    case h_2 => cases h
    rename_i l hl
    split at h
    case h_2 => cases h
    rename_i hh hhi
    rcases ble_of h with ⟨hs, h'⟩ | ⟨_, h'⟩
    · exact goes_slice R H ho hv hl hhi hs h'
    · cases h'
  · rename_i t x hi mx ho
    split at h
    case h_2 => cases h
    rename_i id hv
    split at h
    case h_2 => cases h
    rename_i n hn
    split at h
    case h_2 => cases h
    rename_i n1 h1
    split at h
    case h_2 => cases h
    rename_i m1 h2
    split at h
    · rename_i hb
      exact goes_sliceCap R H ho hv hn h1 h2 hb h
    · cases h
  · rename_i t x ho
    rcases ble_of h with ⟨_, h'⟩ | ⟨hs, h'⟩
    · cases h'
    · split at h'
      case h_2 => cases h'
      rename_i xs hv
      split at h'
      case h_2 => cases h'
      rename_i s' hn
      exact goes_range R H ho (by simpa using hs) hv hn h'
  · rename_i x ho
    split at h
    case h_2 => cases h
    rename_i id hv
    split at h
    case h_2 => cases h
    rename_i xs p hT
    split at h
    · rename_i hp
      exact goes_next R ho hv hT (.inl ⟨hp, h⟩)
    · rename_i hp
      exact goes_next R ho hv hT (.inr ⟨hp, h⟩)
  · rename_i t x i ho
    split at h
    case h_2 => cases h
    rename_i v hv
    split at h
    case h_2 => cases h
    rename_i n hn
    rcases ble_of h with ⟨hs, h'⟩ | ⟨_, h'⟩
    · exact goes_indexAddr R H ho hv hn h' hs
    · cases h'
  · rename_i t x i ho
    split at h
    case h_2 => cases h
    rename_i xs hv
    split at h
    case h_2 => cases h
    rename_i n hn
    rcases ble_of h with ⟨_, h'⟩ | ⟨hs, h'⟩
    · cases h'
    · split at h'
      · rename_i hb
        exact goes_index R H ho hv hn (by simpa using hs) hb h'
      · cases h'
  · rename_i t x f ho
    cases ht : (tiOf G t).ty with
    | none => rw [ht] at h; cases h
    | some τ =>
      rw [ht] at h
      simp only [Option.isNone_some, cond_false] at h
      split at h
      case h_2 => cases h
      rename_i off n g hf
      exact goes_fieldAddr R H ho ht hf h
  · rename_i t x f ho
    cases ht : (tiOf G t).ty with
    | none => rw [ht] at h; cases h
    | some τ =>
      rw [ht] at h
      simp only [Option.isNone_some, cond_false] at h
      split at h
      case h_2 => cases h
      rename_i off n g hf
      split at h
      case h_2 => cases h
      rename_i cs hv
      split at h
      case h_2 => cases h
      rename_i v hm
      exact goes_field R H ho ht hf hv hm h
  · rename_i x i ho
    split at h
    case h_2 => cases h
    rename_i vs hv
    split at h
    case h_2 => cases h
    rename_i g cs hi
    split at h
    case h_2 => cases h
    rename_i v hm
    exact goes_extract R ho hv hi hm h
  · rename_i t x ho
    split at h
    case h_2 => cases h
    rename_i ty ht
    split at h
    · rename_i id hv
      split at h
      · rename_i tt n u xs m u' hT
        rcases ble_of h with ⟨hb, h'⟩ | ⟨_, h'⟩
        · simp only [Bool.and_eq_true, decide_eq_true_eq] at hb
          obtain ⟨⟨h1, rfl⟩, h3⟩ := hb
          have := Nat.eq_of_beq_eq_true h1
          subst this
          exact goes_load_arr R H ho ht h3 hv hT h'
        · cases h'
      · split at h
        case h_2 => cases h
        rename_i cs hc
        split at h
        case h_2 => cases h
        rename_i v hm
        exact goes_load R H ho ht hv hc hm h
    · rename_i v _ hv
      split at h
      case h_2 => cases h
      rename_i cs hc
      split at h
      case h_2 => cases h
      rename_i v hm
      exact goes_load R H ho ht hv hc hm h
    · cases h
  · rename_i t x y ho
    split at h
    case h_2 => cases h
    rename_i ty ht
    split at h
    case h_2 => cases h
    rename_i ad hx
    split at h
    · rename_i n u xs hy
      split at h
      · rename_i id
        split at h
        · rename_i tt m u' ys hT
          rcases ble_of h with ⟨hb, h'⟩ | ⟨_, h'⟩
          · simp only [Bool.and_eq_true, decide_eq_true_eq] at hb
            obtain ⟨⟨⟨h1, rfl⟩, h3⟩, h4⟩ := hb
            have := Nat.eq_of_beq_eq_true h1
            subst this
            exact goes_store_arr R H ho ht hx hy hT (Nat.eq_of_beq_eq_true h3) (by simpa using h4) h'
          · cases h'
        · cases h
      · cases h
    · rename_i v _ hy
      split at h
      case h_2 => cases h
      rename_i cs hcs
      rcases ble_of h with ⟨hb, h'⟩ | ⟨_, h'⟩
      case inr => cases h'
      have hb := Nat.eq_of_beq_eq_true hb
      split at h'
      · split at h'
        case h_2 => cases h'
        rename_i s1 hs1
        split at h'
        case h_2 => cases h'
        rename_i v1 hv1
        split at h'
        case h_2 => cases h'
        rename_i cs1 hcs1
        split at h'
        case h_2 => cases h'
        rename_i ad1 had1
        split at h'
        case h_2 => cases h'
        rename_i s2 hs2
        rcases ble_of hs2 with ⟨hb1, hs2⟩ | ⟨_, hs2⟩
        case inr => cases hs2
        exact goes_store R H ho ht hs1 hv1 hcs1 (Nat.eq_of_beq_eq_true hb1) had1 hs2 h'
      · split at h'
        case h_2 => cases h'
        rename_i s2 hs2
        exact goes_store R H ho ht (ids := []) rfl hy hcs hb hx hs2 h'
    · cases h
  · rename_i t ho
    split at h
    · rename_i n u ht
      rcases ble_of h with ⟨_, h'⟩ | ⟨_, h'⟩
      · cases h'
      · split at h'
        case h_2 => cases h'
        rename_i s' hn
        exact goes_alloc R H ho ht (.inr ⟨n, u, s', rfl, hn, h'⟩)
    · rename_i ty _ ht
      split at h
      case h_2 => cases h
      rename_i s' hn
      exact goes_alloc R H ho ht (.inl ⟨s', hn, h⟩)
    · cases h
  · rename_i t x ho
    split at h
    case h_2 => cases h
    split at h
    · rename_i n u xs hv
      split at h
      case h_2 => cases h
      rename_i s' hn
      exact goes_box R ho hv (.inr ⟨n, u, xs, s', rfl, hn, h⟩)
    · rename_i v _ hv
      split at h
      case h_2 => cases h
      rename_i cs hc
      rcases ble_of h with ⟨_, h'⟩ | ⟨_, h'⟩
      case inr => cases h'
      split at h'
      case h_2 => cases h'
      rename_i s' hn
      exact goes_box R ho hv (.inl ⟨cs, s', hc, hn, h'⟩)
    · cases h
  · rename_i t parts ho
    split at h
    · rename_i n u ht
      rcases ble_of h with ⟨_, h'⟩ | ⟨hb, h'⟩
      · cases h'
      · simp only [Bool.or_eq_false_iff, Bool.not_eq_false'] at hb
        exact goes_build R H ho ht hb.2 (.inr ⟨n, u, rfl, hb.1.2, h'⟩)
    · rename_i ty _ ht
      rcases ble_of h with ⟨_, h'⟩ | ⟨hb, h'⟩
      · cases h'
      · split at h'
        case h_2 => cases h'
        rename_i cs hc
        exact goes_build R H ho ht (by simpa using hb) (.inl ⟨cs, hc, h'⟩)
    · cases h
  · rename_i t len parts ho
    split at h
    case h_2 => cases h
    rename_i e u hE
    rcases ble_of h with ⟨hb, h'⟩ | ⟨_, h'⟩
    case inr => cases h'
    simp only [Bool.and_eq_true] at hb
    obtain ⟨⟨⟨b1, b2⟩, b3⟩, b4⟩ := hb
    split at h'
    case h_2 => cases h'
    rename_i vs hvs
    split at h'
    case h_2 => cases h'
    rename_i css hcss
    split at h'
    case h_2 => cases h'
    rename_i s1 hs1
    split at h'
    case h_2 => cases h'
    rename_i xs hxs
    split at h'
    case h_2 => cases h'
    rename_i s2 hn
    exact goes_buildSlice R H ho hE (Nat.eq_of_beq_eq_true b1) b2 (Nat.le_of_ble_eq_true b3) (Nat.le_of_ble_eq_true b4) hvs hcss hs1 hxs hn h'
  · rename_i t l c ho
    split at h
    case h_2 => cases h
    rename_i e u hE
    split at h
    case h_2 => cases h
    rename_i n hx
    split at h
    case h_2 => cases h
    rename_i m hy
    rcases ble_of h with ⟨_, h'⟩ | ⟨hb, h'⟩
    · cases h'
    · split at h'
      case isFalse => cases h'
      rename_i hc
      split at h'
      case h_2 => cases h'
      rename_i s' hn
      exact goes_makeSlice R H ho hE hx hy (beq0 hb) hc hn h'
  · rename_i c ho
    split at h
    · rename_i b hc
      split at h
      case h_2 => cases h
      rename_i vs hvs
      exact goes_builtin R H ho hc hvs h
    · rename_i f hc
      split at h
      case h_2 => cases h
      rename_i F hF
      split at h
      case h_2 => cases h
      rename_i vs hvs
      exact goes_call R ho hc (HC f F hF) hvs h
    · cases h
  · cases h
end
end Go.Proofs.YtkadllkeekoopaaGreat.Abs
end

section
namespace Go.Proofs.YtkadllkeekoopaaGreat.Abs
open Go.RowKit

section
variable {ρ : Type} {G : Ctx} {fr : Fr} {σ : Nat → Value} {s : St} {a : Act} {w : World} {r : ρ}

theorem getD_get {a : Act} {d : Nat} {b : Bool} (h : a.tmps.getD d Go.undef = .bool b) : a.tmps[d]? = some (.bool b) := by
  rw [Array.getD_eq_getD_getElem?] at h
  cases hd : a.tmps[d]? with
  | none => rw [hd] at h; cases h
  | some v => rw [hd] at h; simp at h; rw [h]
theorem yielded_bool {ops : Array Oper} {a : Act} {j d : Nat} {oj : Oper} {b : Bool} (hj : ops[j]? = some oj) (hd : oj.dst = some d) (h : a.tmps.getD d Go.undef = .bool b) : yielded ops a.tmps j = some b := by
  unfold yielded
  rw [hj]
  simp only [Option.bind_some, hd, getD_get h]
theorem yielded_skip {ops : Array Oper} {a : Act} {j d : Nat} {oj : Oper} (hj : ops[j]? = some oj) (hd : oj.dst = some d) (h : a.tmps.getD d Go.undef = Go.undef) : yielded ops a.tmps j = none := by
  unfold yielded
  rw [hj]
  simp only [Option.bind_some, hd]
  rw [Array.getD_eq_getD_getElem?] at h
  cases hd : a.tmps[d]? with
  | none => rfl
  | some v =>
    rw [hd] at h
    simp at h
    rw [h]
    rfl

theorem aOps_sound (H : TIs fr.P G) (HC : ∀ f F, get G.calls f = some F → CallOk fr.P f F) (hn : G.n = fr.n) {ops : Array Oper} {Q : Exit → Act → World → Prop} {K : St → Option ρ} (hQ : ∀ σ s a w, K s = some r → RelS fr σ s a w → Q .normal a w) :
    ∀ (l : List Oper) (i : Nat) (σ : Nat → Value) (s : St) (a : Act) (w : World), (∀ (j : Nat) o, l[j]? = some o → ops[i + j]? = some o) → aOps G ops l s K = some r → RelS fr σ s a w → wpOps fr.P ops Q (List.range' i l.length) a w
  | [], i, σ, s, a, w, _, h, R => by
    simp only [aOps] at h
    exact hQ σ s a w h R
  | o :: l, i, σ, s, a, w, hl, h, R => by
    have h0 := hl 0 o rfl
    rw [Nat.add_zero] at h0
    have hl' : ∀ (j : Nat) o, l[j]? = some o → ops[i + 1 + j]? = some o := fun j o hj => by
      have := hl (j + 1) o (by simpa using hj)
      rw [show i + 1 + j = i + (j + 1) by omega]
      exact this
    rw [List.length_cons, List.range'_succ]
    simp only [wpOps, h0]
    have doit : ∀ s, RelS fr σ s a w → (opK G o s fun v s' => aOps G ops l (putV G.n s' o.dst v) K) = some r → Region.wanted o (yielded ops a.tmps) = true → (if Region.wanted o (yielded ops a.tmps) = true then Oper.wp fr.P o a w (wpOps fr.P ops Q (List.range' (i + 1) l.length)) Q ∨ Oper.asks fr.P o a w ∧ LetsOut Q else wpOps fr.P ops Q (List.range' (i + 1) l.length) (a.put o.dst Go.undef) w) := fun s R h hw => by
      rw [if_pos hw]
      left
      refine opK_sound R H HC h _ _ fun v s' σ' u w' hK R' hV => ?_
      refine aOps_sound H HC hn hQ l (i + 1) σ' _ _ w' hl' hK ?_
      rw [hn]
      exact R'.dest hV o.dst
    have pass : ∀ s, RelS fr σ s a w → aOps G ops l (putV G.n s o.dst .skip) K = some r → Region.wanted o (yielded ops a.tmps) = false → (if Region.wanted o (yielded ops a.tmps) = true then Oper.wp fr.P o a w (wpOps fr.P ops Q (List.range' (i + 1) l.length)) Q ∨ Oper.asks fr.P o a w ∧ LetsOut Q else wpOps fr.P ops Q (List.range' (i + 1) l.length) (a.put o.dst Go.undef) w) := fun s R h hw => by
      rw [if_neg (by rw [hw]; simp)]
      refine aOps_sound H HC hn hQ l (i + 1) σ _ _ w hl' h ?_
      rw [hn]
      exact R.dest (v := .skip) rfl o.dst
    rw [aOps] at h
    split at h
    · rename_i hg
      exact doit s R h (by simp [Region.wanted, hg])
    · rename_i j want hg
      split at h
      case h_2 => cases h
      rename_i oj hj
      split at h
      case h_2 => cases h
      rename_i dj hdj
      split at h
      · rename_i b hb
        have hy := yielded_bool hj hdj (R.envT hb)
        have hw : Region.wanted o (yielded ops a.tmps) = (b == want) := by
          simp only [Region.wanted, hg, hy]
          cases b <;> cases want <;> rfl
        cases b with
        | true =>
          simp only [if_true] at h
          have R' := R.lit hdj (getT_get hb).2
          cases want with
          | true => exact doit _ R' h (by rw [hw]; rfl)
          | false => exact pass _ R' h (by rw [hw]; rfl)
        | false =>
          simp only [Bool.false_eq_true, if_false] at h
          have R' := R.lit hdj (getT_get hb).2
          cases want with
          | true => exact pass _ R' h (by rw [hw]; rfl)
          | false => exact doit _ R' h (by rw [hw]; rfl)
      · rename_i hb
        have hy := yielded_skip hj hdj (R.envT hb)
        exact pass s R h (by simp [Region.wanted, hg, hy])
      · cases h

/-! ## Code -/
def Post (fr : Fr) (ret : St → Option ρ) (k : Option Nat → St → Option ρ) (r : ρ) : Exit → Act → World → Prop
  | .normal, a, w => ∃ σ s, RelS fr σ s a w ∧ k none s = some r
  | .exit i, a, w => ∃ σ s, RelS fr σ s a w ∧ k (some i) s = some r
  | .ret, a, w => ∃ σ s, RelS fr σ s a w ∧ ret s = some r
  | _, _, _ => False

section
variable (G : Ctx) (L : Seams ρ) (calm : Array Oper → Option (List Nat × Nat)) (ret : St → Option ρ)
/-- What stands in L for the loops and the seams of a code is what they come to. -/
def Good : Code → Prop
  | .seq x y => Good x ∧ Good y ∧ ∀ j, get L.joins (firstId y) = some j → ∀ z k r, j.J z k = some r → aExec G L calm ret y (unpack j.d z) (seamK j.e k) = some r
  | .cond _ x y => Good x ∧ Good y
  | .block _ c => Good c
  | .loop c => Good c ∧ ∀ j, get L.loops (firstId c) = some j → ∀ z k r, j.J z k = some r → ∃ n, loopN j.d (aExec G L calm ret c) n z k = some r
  | _ => True
end
/-- Regions that draw their order. -/
def CalmOk (fr : Fr) (G : Ctx) (calm : Array Oper → Option (List Nat × Nat)) : Prop :=
  ∀ (ρ : Type) (r : ρ) (id : Nat) (ops : Array Oper) (σ : Nat → Value) (s : St) (a : Act) (w : World) (K : St → Option ρ) (Q : Exit → Act → World → Prop) (ms : List Nat) (m : Nat), calm ops = some (ms, m) → aOpsD G ops ms m 0 [] ops.toList s K = some r → RelS fr σ s a w →
    (∀ σ s a w, K s = some r → RelS fr σ s a w → Q .normal a w) → (Code.region id ops true).wp fr.P Q a w

theorem loop_sound {ret : St → Option ρ} {c : Code} {d : Desc} {B : St → (Option Nat → St → Option ρ) → Option ρ} (hB : ∀ k r σ s a w, B s k = some r → RelS fr σ s a w → c.wp fr.P (Post fr ret k r) a w) {k : Option Nat → St → Option ρ} :
    ∀ (n : Nat) (x : d.X) (σ : Nat → Value) (a : Act) (w : World), loopN d B n x k = some r → RelS fr σ (unpack d x) a w → ∀ (b : Frame) (kk : List Item) (cs : List Frame),
      ∃ e a' w', Post fr ret k r e a' w' ∧ Arrives fr.P (lone (b.at a (.code c :: .inLoop c :: kk)) cs w) b kk cs e a' w'
  | 0, x, σ, a, w, h, _ => by simp [loopN] at h
  | n + 1, x, σ, a, w, h, R => by
    intro b kk cs
    simp only [loopN] at h
    obtain ⟨e, a1, w1, hq, harr⟩ := hB _ r σ _ a w h R b (.inLoop c :: kk) cs
    cases e with
    | normal =>
      obtain ⟨σ1, s1, R1, hk⟩ := hq
      simp only [] at hk
      split at hk
      · rename_i x' hx
        obtain ⟨σ2, R2⟩ := R1.enter hx
        obtain ⟨e2, a2, w2, hq2, harr2⟩ := loop_sound hB n x' σ2 a1 w1 hk R2 b kk cs
        exact ⟨e2, a2, w2, hq2, .of_steps (Steps.trans harr (.one step_inLoop)) harr2⟩
      · cases hk
    | exit id => exact ⟨.exit id, a1, w1, hq, .pass (x := .inLoop c) rfl (fun _ _ => .inl (by simp)) harr⟩
    | ret => exact ⟨.ret, a1, w1, hq, .pass (x := .inLoop c) rfl (fun _ _ => .inl (by simp)) harr⟩
    | goto l => exact hq.elim
    | panic ch => exact hq.elim
    | outgrown => exact hq.elim

theorem aExec_sound (H : TIs fr.P G) (HC : ∀ f F, get G.calls f = some F → CallOk fr.P f F) (hn : G.n = fr.n) {L : Seams ρ} {calm : Array Oper → Option (List Nat × Nat)} (hcalm : CalmOk fr G calm) {ret : St → Option ρ} :
    ∀ (c : Code), Good G L calm ret c → ∀ (k : Option Nat → St → Option ρ) (r : ρ) (σ : Nat → Value) (s : St) (a : Act) (w : World), aExec G L calm ret c s k = some r → RelS fr σ s a w → c.wp fr.P (Post fr ret k r) a w := by
  intro c
  induction c with
  | skip => intro _ k r σ s a w h R; exact wp_skip ⟨σ, s, R, h⟩
  | label l => intro _ k r σ s a w h R; exact wp_label ⟨σ, s, R, h⟩
  | region id ops draw =>
    intro _ k r σ s a w h R
    simp only [aExec] at h
    cases draw with
    | false =>
      simp only [cond_false] at h
      refine wp_region ?_
      have := aOps_sound H HC hn (ops := ops) (Q := Post fr ret k r) (K := fun s' => k none s') (r := r) (fun σ s a w hk R => ⟨σ, s, R, hk⟩) ops.toList 0 σ s a w (fun j o hj => by simpa using hj) h R
      rw [List.range_eq_range', ← Array.length_toList]
      exact this
    | true =>
      simp only [cond_true] at h
      split at h
      case h_2 => cases h
      rename_i s0 hs0
      have R : RelS fr σ s0 a w := by
        unfold preS at hs0
        split at hs0
        · cases hs0; exact R
        · exact R.freezeAll hs0
      split at h
      case h_2 => cases h
      rename_i ms m hc
      exact hcalm ρ r id ops σ s0 a w (fun s' => k none s') _ ms m hc h R fun σ s a w hk R => ⟨σ, s, R, hk⟩
  | seq x y ihx ihy =>
    intro hg k r σ s a w h R
    obtain ⟨gx, gy, gj⟩ := hg
    simp only [aExec] at h
    refine wp_seq (wp_mono (ihx gx _ r σ s a w h R) fun e a1 w1 hq => ?_)
    cases e with
    | normal =>
      obtain ⟨σ1, s1, R1, hk⟩ := hq
      simp only [] at hk
      split at hk
      · exact ihy gy k r σ1 s1 a1 w1 hk R1
      · rename_i j hj
        split at hk
        case h_2 => cases hk
        rename_i z hz
        obtain ⟨σ2, R2⟩ := R1.enter hz
        refine wp_mono (ihy gy _ r σ2 _ a1 w1 (gj j hj z k r hk) R2) fun e a2 w2 hq2 => ?_
        cases e with
        | normal =>
          obtain ⟨σ3, s3, R3, hk3⟩ := hq2
          unfold seamK at hk3
          simp only [] at hk3
          split at hk3
          case h_2 => cases hk3
          rename_i d _
          split at hk3
          case h_2 => cases hk3
          rename_i z3 hz3
          obtain ⟨σ4, R4⟩ := R3.enter hz3
          exact ⟨σ4, _, R4, hk3⟩
        | exit i => exact hq2
        | ret => exact hq2
        | goto l => exact hq2.elim
        | panic ch => exact hq2.elim
        | outgrown => exact hq2.elim
    | exit i => exact hq
    | ret => exact hq
    | goto l => exact hq.elim
    | panic ch => exact hq.elim
    | outgrown => exact hq.elim
  | cond c x y ihx ihy =>
    intro hg k r σ s a w h R
    simp only [aExec] at h
    split at h
    case h_2 => cases h
    rename_i b hc
    have hb : a.eval c = .bool b := evC_spec R hc
    refine wp_cond hb ?_
    cases b with
    | true => exact ihx hg.1 k r σ s a w h R
    | false => exact ihy hg.2 k r σ s a w h R
  | block id c ih =>
    intro hg k r σ s a w h R
    simp only [aExec] at h
    refine wp_block (wp_mono (ih hg _ r σ s a w h R) fun e a1 w1 hq => ?_)
    cases e with
    | normal => exact hq
    | exit i =>
      obtain ⟨σ1, s1, R1, hk⟩ := hq
      simp only [] at hk
      simp only [Exit.inBlock]
      split
      · rename_i e
        subst e
        simp only [Nat.beq_refl, cond_true] at hk
        exact ⟨σ1, s1, R1, hk⟩
      · rename_i e
        rw [beq_ne e] at hk
        exact ⟨σ1, s1, R1, hk⟩
    | ret => exact hq
    | goto l => exact hq.elim
    | panic ch => exact hq.elim
    | outgrown => exact hq.elim
  | loop c ih =>
    intro hg k r σ s a w h R
    obtain ⟨gc, gl⟩ := hg
    simp only [aExec] at h
    split at h
    case h_2 => cases h
    rename_i j hj
    split at h
    case h_2 => cases h
    rename_i z hz
    obtain ⟨σ1, R1⟩ := R.enter hz
    obtain ⟨n, hn'⟩ := gl j hj z k r h
    intro b kk cs
    obtain ⟨e, a', w', hq, harr⟩ := loop_sound (ret := ret) (fun k r σ s a w h R => ih gc k r σ s a w h R) n z σ1 a w hn' R1 b kk cs
    exact ⟨e, a', w', hq, .of_steps (.one step_loop) harr⟩
  | exit id =>
    intro _ k r σ s a w h R
    simp only [aExec] at h
    split at h
    · exact wp_exit ⟨σ, s, R, h⟩
    · split at h
      case h_2 => cases h
      rename_i z hz
      obtain ⟨σ1, R1⟩ := R.enter hz
      exact wp_exit ⟨σ1, _, R1, h⟩
  | ret => intro _ k r σ s a w h R; exact wp_ret ⟨σ, s, R, h⟩
  | rangeFunc f p x y _ _ => intro _ k r σ s a w h _; simp [aExec] at h
  | scope c _ => intro _ k r σ s a w h _; simp [aExec] at h
  | goto l => intro _ k r σ s a w h _; simp [aExec] at h
  | refuse why => intro _ k r σ s a w h _; simp [aExec] at h
end
end Go.Proofs.YtkadllkeekoopaaGreat.Abs
end

section
namespace Go.Proofs.YtkadllkeekoopaaGreat.Abs
open Go.RowKit

section
variable {G : Ctx} {fr : Fr} {σ : Nat → Value} {s : St} {a : Act} {w : World}

theorem has_mem : ∀ {l : List Nat} {i : Nat}, has l i = true ↔ i ∈ l
  | [], i => by simp [has]
  | j :: l, i => by
    rw [has, Bool.or_eq_true, has_mem, List.mem_cons]
    constructor
    · rintro (h | h)
      · exact .inl (Nat.eq_of_beq_eq_true h).symm
      · exact .inr h
    · rintro (h | h)
      · exact .inl (by rw [h]; exact Nat.beq_refl j)
      · exact .inr h
/-! ## The results as they are read -/
noncomputable def resB (G : Ctx) : List (ResultVar × Bool × Ty) → Bool
  | [] => true
  | (.tmp _, _, _) :: r => resB G r
  | (.cell _ ty, g, t) :: r => (match (tiOf G ty).ty with
    | some t' => decide (t' = t)
    | none => false) && ((tiOf G ty).agg == g) && resB G r
theorem loadV_spec (R : RelS fr σ s a w) (H : TIs fr.P G) {ty : TypeId} {g : Bool} {t : Ty} (ht : (tiOf G ty).ty = some t) (hg : (tiOf G ty).agg = g) {v v' : V} (h : loadV s.T g t v = some v') {u : Value} (hV : VR fr σ s.T w v u) :
    ∃ ad u', u = .pointer (some ad) ∧ (loadVar ty ad).run fr.P w = .ok u' w ∧ VR fr σ s.T w v' u' := by
  have plain : ∀ cs, cellsAt s.T v t.size = some cs → mkV g cs = some v' → ∃ ad u', u = .pointer (some ad) ∧ (loadVar ty ad).run fr.P w = .ok u' w ∧ VR fr σ s.T w v' u' := fun cs hc hm => by
    obtain ⟨hl, vs, hcs, ad, hu, hs, hcell⟩ := cellsAt_spec R hc hV
    subst hg
    obtain ⟨hv', h1⟩ := mkV_spec hm hcs
    exact ⟨ad, _, hu, run_loadVar_at (H ty t ht) hs (by rw [CRs.len hcs, hl]) hcell h1, hv'⟩
  unfold loadV at h
  split at h
  · rename_i id
    split at h
    · rename_i tt n u' xs m u2 hT
      rcases ble_of h with ⟨hb, h'⟩ | ⟨_, h'⟩
      case inr => cases h'
      cases h'
      simp only [Bool.and_eq_true, decide_eq_true_eq] at hb
      obtain ⟨⟨h1, rfl⟩, h3⟩ := hb
      have := Nat.eq_of_beq_eq_true h1
      subst this
      obtain ⟨o', a0, ho', ha, hs, hu⟩ := hV
      obtain ⟨gg, arr, hσ, _, hh, hc⟩ := R.objs id _ hT
      rw [hσ] at ha
      simp [addr] at ha
      subst ha
      have := run_loadVar_at (w := w) (H ty _ ht) (ad := ⟨gg, 0 + 0, none⟩) rfl (vs := arr.toList) hc.2.1 (fun j x hj => by
        rw [cell_of_row w gg _ arr tt (0, 0) hh]
        simpa using hj) (fun h => by rw [hg, h3] at h; cases h)
      rw [hg, h3] at this
      refine ⟨_, _, hu, this, arr, by simp [ofCells], hc⟩
    · split at h
      case h_2 => cases h
      rename_i cs hc
      exact plain cs hc h
  · split at h
    case h_2 => cases h
    rename_i cs hc
    exact plain cs hc h
noncomputable def resOne (a : Act) : ResultVar → Sem Value
  | .tmp t => pure (a.tmps.getD t Go.undef)
  | .cell p t => do loadVar t (← asAddr (a.tmps.getD p Go.undef))
theorem resVals_spec (R : RelS fr σ s a w) (H : TIs fr.P G) : ∀ {rs : List ResultVar} {outs : List (Bool × Ty)} {vs : List V}, rs.length = outs.length → resVals s (rs.zip outs) = some vs → resB G (rs.zip outs) = true →
    ∃ us, (rs.mapM (resOne a)).run fr.P w = .ok us w ∧ us.length = rs.length ∧ vs.length = us.length ∧ ∀ (i : Nat) v, vs[i]? = some v → ∃ u, us[i]? = some u ∧ VR fr σ s.T w v u
  | [], outs, vs, hl, h, _ => by
    cases outs with
    | cons _ _ => cases hl
    | nil =>
      cases h
      exact ⟨[], rfl, rfl, rfl, fun i v hi => by simp at hi⟩
  | rv :: rs, [], vs, hl, h, _ => by cases hl
  | rv :: rs, (g, t) :: outs, vs, hl, h, hb => by
    have fin : ∀ v u vs', resVals s (rs.zip outs) = some vs' → resB G (rs.zip outs) = true → vs = v :: vs' → VR fr σ s.T w v u → (resOne a rv).run fr.P w = .ok u w → ∃ us, ((rv :: rs).mapM (resOne a)).run fr.P w = .ok us w ∧ us.length = (rv :: rs).length ∧ vs.length = us.length ∧ ∀ (i : Nat) v, vs[i]? = some v → ∃ u, us[i]? = some u ∧ VR fr σ s.T w v u := fun v u vs' hvs hbb hv hV hrun => by
      subst hv
      obtain ⟨us, h1, h2, h3, h4⟩ := resVals_spec R H (rs := rs) (outs := outs) (by simpa using hl) hvs hbb
      refine ⟨u :: us, ?_, by simp [h2], by simp [h3], fun i v' hi => ?_⟩
      · rw [List.mapM_cons]
        simp only [Sem.run_bind, hrun, Result.andThen_ok, h1, Sem.run_pure]
      · cases i with
        | zero =>
          simp at hi
          subst hi
          exact ⟨u, rfl, hV⟩
        | succ i => simpa using h4 i v' (by simpa using hi)
    cases rv with
    | tmp i =>
      simp only [List.zip_cons_cons, resVals] at h
      split at h
      case h_2 => cases h
      rename_i v hv
      split at h
      case h_2 => cases h
      rename_i vs' hvs
      cases h
      exact fin v _ vs' hvs (by simpa [resB] using hb) rfl (R.envT hv) (by simp [resOne])
    | cell p ty =>
      simp only [List.zip_cons_cons, resVals] at h
      simp only [List.zip_cons_cons, resB, Bool.and_eq_true, beq_iff_eq] at hb
      obtain ⟨⟨hb1, hb2⟩, hb3⟩ := hb
      split at h
      case h_2 => cases h
      rename_i v hv
      split at h
      case h_2 => cases h
      rename_i u hu
      split at h
      case h_2 => cases h
      rename_i vs' hvs
      cases h
      have ht : (tiOf G ty).ty = some t := by
        split at hb1
        · rename_i t' ht'
          rw [ht']
          congr 1
          simpa using hb1
        · cases hb1
      obtain ⟨ad, u', hadr, hrun, hV⟩ := loadV_spec R H ht hb2 hu (R.envT hv)
      exact fin u u' vs' hvs hb3 rfl hV (by simp only [resOne, hadr, asAddr, Sem.run_bind, Sem.run_pure, Result.andThen_ok, hrun])

theorem ghostE_get : ∀ {e : Env} {i : Nat} {v : V}, get (ghostE e) i = some v → 1000000 ≤ i ∧ get e i = some v
  | [], _, _, h => by cases h
  | (j, y) :: e, i, v, h => by
    simp only [ghostE] at h
    rw [get_cons]
    cases hb : Nat.blt j 1000000 with
    | true =>
      rw [hb] at h
      simp only [cond_true] at h
      have hj := Nat.blt_eq.mp hb
      obtain ⟨h1, h2⟩ := ghostE_get h
      rw [if_neg (by omega)]
      exact ⟨h1, h2⟩
    | false =>
      rw [hb] at h
      simp only [cond_false, get_cons] at h
      split at h
      · rename_i e1
        rw [if_pos e1]
        refine ⟨?_, h⟩
        rcases Nat.lt_or_ge j 1000000 with h' | h'
        · rw [Nat.blt_eq.mpr h'] at hb; cases hb
        · omega
      · rename_i e1
        rw [if_neg e1]
        exact ghostE_get h
/-- Another act, other slots. -/
theorem RelS.react (R : RelS fr σ s a w) {n : Nat} {a' : Act} {e : Env} (hn : a'.tmps.size = n) (hs : n ≤ 1000000) (hd : a'.defers = []) (h : ∀ i v, get e i = some v → VR fr σ s.T w v (({ fr with n := n } : Fr).val a' i)) : RelS { fr with n := n } σ ⟨e, s.T⟩ a' w :=
  have m : Mv fr { fr with n := n } σ s.T w σ s.T w id (fun _ => true) id := .plain (fun _ _ hf => ⟨hf, rfl⟩) (fun _ o ho => ⟨o, ho, rfl, rfl⟩)
  ⟨⟨R.kept.os, R.kept.tape, R.kept.output, R.kept.size, R.kept.block, R.kept.fresh, R.kept.nmb⟩, R.fa, R.dist, fun id o ho => by
    have := m.or2 (R.objs id o ho) (j := id) rfl (fun _ _ h => h) (fun _ _ => rfl)
    rwa [mapO_id] at this, fun i v hi => by
    have := m.vr (h i v hi)
    rwa [mapV_id] at this, hn, hs, hd⟩
theorem retK_spec (R : RelS fr σ s a w) (H : TIs fr.P G) {fn : Func} {outs : List (Bool × Ty)} {d : Desc} (hl : fn.results.size = outs.length) (hsm : fn.results.size ≤ 1000000) (hb : resB G (fn.results.toList.zip outs) = true) {x : d.X} (h : retK fn.results.toList outs d s = some x) :
    ∃ us, (results fn a.tmps).run fr.P w = .ok (retV us) w ∧ us.length = fn.results.size ∧ ∃ σ', RelS { fr with n := us.length } σ' (unpack d x) ⟨us.toArray, []⟩ w := by
  unfold retK at h
  split at h
  case h_2 => cases h
  rename_i vs hvs
  have hrl : fn.results.toList.length = fn.results.size := Array.length_toList
  obtain ⟨us, hrun, hul, hvl, hV⟩ := resVals_spec R H (by omega) hvs hb
  have hmap : (results fn a.tmps).run fr.P w = .ok (retV us) w := by
    have e : results fn a.tmps = (do
        let vs ← fn.results.mapM (resOne a)
        pure (if h : vs.size = 1 then vs[0] else .tuple vs)) := by
      unfold results
      congr 1
    rw [e, Array.mapM_eq_mapM_toList]
    simp only [Sem.run_bind, Sem.run_map, hrun, Result.andThen_ok, Sem.run_pure]
    congr 1
    cases us with
    | nil => rfl
    | cons u us =>
      cases us with
      | nil => rfl
      | cons v us => simp [retV]
  have R1 : RelS { fr with n := us.length } σ ⟨argE 0 vs ++ ghostE s.env, s.T⟩ ⟨us.toArray, []⟩ w := R.react (by simp) (by omega) rfl fun i v hi => by
    rcases get_app hi with hi | ⟨_, hi⟩
    · obtain ⟨_, hi'⟩ := argE_get hi
      rw [Nat.sub_zero] at hi'
      obtain ⟨u, hu, hv⟩ := hV i v hi'
      have hlt := (List.getElem?_eq_some_iff.1 hi').1
      have : ({ fr with n := us.length } : Fr).val ⟨us.toArray, []⟩ i = u := by
        unfold Fr.val
        rw [if_pos (by omega), Array.getD_eq_getD_getElem?]
        simp [hu]
      rw [this]
      exact hv
    · obtain ⟨h1, h2⟩ := ghostE_get hi
      have := R.env i v h2
      unfold Fr.val at this ⊢
      rw [if_neg (by omega)] at this ⊢
      exact this
  obtain ⟨σ', R2⟩ := R1.enter h
  exact ⟨us, hmap, by omega, σ', R2⟩

theorem fn_ok {P : Program} {g : FuncId} {fn : Func} {c : Code} {F : Fn} {G : Ctx} {L : Seams F.dout.X} {calm : Array Oper → Option (List Nat × Nat)}
    (hf : P.funcs[g]? = some fn) (hb : fn.body = some c) (hname : (fn.name == "runtime.NumGoroutine") = false) (H : TIs P G) (HC : ∀ f F', get G.calls f = some F' → CallOk P f F') (hn : G.n = fn.ntmps) (hcalm : ∀ fr : Fr, fr.P = P → fr.n = G.n → CalmOk fr G calm)
    (hi : (Nat.ble (cntB F.din.slots) fn.ntmps && Nat.ble fn.ntmps 1000000 && Nat.ble fn.results.size 1000000 && Nat.beq fn.results.size F.outs.length && Nat.beq fn.results.size (cntB F.dout.slots) && resB G (fn.results.toList.zip F.outs) && numB 0 F.dout.slots && closed F.dout) = true)
    (hgood : Good G L calm (retK fn.results.toList F.outs F.dout) c) (hrun : (fun a => aBody G calm fn F L a) = F.run) : CallOk P g F := by
  simp only [Bool.and_eq_true] at hi
  obtain ⟨⟨⟨⟨⟨⟨⟨i1, i2⟩, i3⟩, i4⟩, i5⟩, i6⟩, i7⟩, i8⟩ := hi
  have i1 := Nat.le_of_ble_eq_true i1
  have i2 := Nat.le_of_ble_eq_true i2
  have i3 := Nat.le_of_ble_eq_true i3
  have i4 := Nat.eq_of_beq_eq_true i4
  have i5 := Nat.eq_of_beq_eq_true i5
  refine ⟨fun args w => ?_, ⟨i7, i8⟩, fun x r hr fr σ us hP hnu hcnt R => ?_⟩
  · simp [callFunc, hf, hb]
    simpa using hname
  · subst hP
    rw [← hrun] at hr
    simp only [aBody, hb] at hr
    have R1 : RelS { fr with n := fn.ntmps } σ (unpack F.din x) { tmps := us.toArray ++ Array.replicate (fn.ntmps - us.toArray.size) Go.undef, defers := [] } fr.w0 := R.react (e := (unpack F.din x).env) (by
      simp only [Array.size_append, Array.size_replicate, List.size_toArray]
      omega) i2 rfl fun i v hi => by
      have := R.env i v hi
      have e : ({ fr with n := fn.ntmps } : Fr).val { tmps := us.toArray ++ Array.replicate (fn.ntmps - us.toArray.size) Go.undef, defers := [] } i = fr.val ⟨us.toArray, []⟩ i := by
        unfold Fr.val
        split
        · rw [Array.getD_eq_getD_getElem?, Array.getD_eq_getD_getElem?, Array.getElem?_append]
          split
          · rfl
          · rename_i hlt
            rw [Array.getElem?_replicate]
            rw [Array.getElem?_eq_none (show us.toArray.size ≤ i by omega)]
            split <;> rfl
        · rfl
      rw [e]
      exact this
    refine calls_of_wp hf hb (wp_mono (aExec_sound (fr := { fr with n := fn.ntmps }) H HC hn (hcalm _ rfl hn.symm) c hgood _ r _ _ _ fr.w0 hr R1) fun e a' w' hq => ?_)
    have fin : ∀ σ s, RelS { fr with n := fn.ntmps } σ s a' w' → retK fn.results.toList F.outs F.dout s = some r → a'.defers = [] ∧ ∃ v, (results fn a'.tmps).run fr.P w' = .ok v w' ∧ ∃ σ' us', v = retV us' ∧ us'.length = cntB F.dout.slots ∧ RelS { fr with n := us'.length } σ' (unpack F.dout r) ⟨us'.toArray, []⟩ w' := fun σ s R' hk => by
      obtain ⟨us', h1, h2, σ', h3⟩ := retK_spec (fr := { fr with n := fn.ntmps }) R' H i4 i3 i6 hk
      exact ⟨R'.defers, _, h1, σ', us', rfl, by omega, h3⟩
    cases e with
    | normal =>
      obtain ⟨σ, s, R', hk⟩ := hq
      exact fin σ s R' hk
    | ret =>
      obtain ⟨σ, s, R', hk⟩ := hq
      exact fin σ s R' hk
    | exit i =>
      obtain ⟨σ, s, R', hk⟩ := hq
      cases hk
    | goto l => exact hq.elim
    | panic ch => exact hq.elim
    | outgrown => exact hq.elim
end
end Go.Proofs.YtkadllkeekoopaaGreat.Abs
end

section
namespace Go.Proofs.YtkadllkeekoopaaGreat.Abs
open Go.RowKit

section
variable {ρ : Type} (G : Ctx) (L : Seams ρ) (calm : Array Oper → Option (List Nat × Nat)) (ret : St → Option ρ)
def LoopOk (j : Seam ρ) (c : Code) : Prop := ∀ z k r, j.J z k = some r → ∃ n, loopN j.d (aExec G L calm ret c) n z k = some r
def RestOk (j : Seam ρ) (c : Code) : Prop := ∀ z k r, j.J z k = some r → aExec G L calm ret c (unpack j.d z) (seamK j.e k) = some r
noncomputable def loopsIn (l : List Nat) : Code → List (Nat × Code)
  | .seq x y => loopsIn l x ++ loopsIn l y
  | .cond _ x y => loopsIn l x ++ loopsIn l y
  | .block _ c => loopsIn l c
  | .loop c => (bif has l (firstId c) then [(firstId c, c)] else []) ++ loopsIn l c
  | _ => []
noncomputable def restsIn (l : List Nat) : Code → List (Nat × Code)
  | .seq x y => (bif has l (firstId y) then [(firstId y, y)] else []) ++ (restsIn l x ++ restsIn l y)
  | .cond _ x y => restsIn l x ++ restsIn l y
  | .block _ c => restsIn l c
  | .loop c => restsIn l c
  | _ => []
def AllL : List (Nat × Code) → Prop
  | [] => True
  | (k, c) :: r => (∀ j, get L.loops k = some j → LoopOk G L calm ret j c) ∧ AllL r
def AllR : List (Nat × Code) → Prop
  | [] => True
  | (k, c) :: r => (∀ j, get L.joins k = some j → RestOk G L calm ret j c) ∧ AllR r
theorem AllL.mem : ∀ {l : List (Nat × Code)}, AllL G L calm ret l → ∀ k c, (k, c) ∈ l → ∀ j, get L.loops k = some j → LoopOk G L calm ret j c
  | (k', c') :: r, h, k, c, hm => by
    cases hm with
    | head => exact h.1
    | tail _ hm => exact AllL.mem h.2 k c hm
theorem AllR.mem : ∀ {l : List (Nat × Code)}, AllR G L calm ret l → ∀ k c, (k, c) ∈ l → ∀ j, get L.joins k = some j → RestOk G L calm ret j c
  | (k', c') :: r, h, k, c, hm => by
    cases hm with
    | head => exact h.1
    | tail _ hm => exact AllR.mem h.2 k c hm
theorem get_has {α : Type} : ∀ {l : List (Nat × α)} {k : Nat} {x : α}, get l k = some x → has (l.map (·.1)) k = true
  | [], _, _, h => by cases h
  | (i, y) :: r, k, x, h => by
    rw [get_cons] at h
    rw [List.map_cons, has_mem, List.mem_cons]
    split at h
    · rename_i e
      exact .inl e.symm
    · exact .inr (has_mem.1 (get_has h))
theorem good_of {c : Code} (hl : ∀ k c', (k, c') ∈ loopsIn (L.loops.map (·.1)) c → ∀ j, get L.loops k = some j → LoopOk G L calm ret j c') (hr : ∀ k c', (k, c') ∈ restsIn (L.joins.map (·.1)) c → ∀ j, get L.joins k = some j → RestOk G L calm ret j c') : Good G L calm ret c := by
  induction c with
  | seq x y ihx ihy =>
    refine ⟨ihx (fun k c h => hl k c (List.mem_append_left _ h)) (fun k c h => hr k c (List.mem_append_right _ (List.mem_append_left _ h))), ihy (fun k c h => hl k c (List.mem_append_right _ h)) (fun k c h => hr k c (List.mem_append_right _ (List.mem_append_right _ h))), fun j hj => ?_⟩
    refine hr (firstId y) y (List.mem_append_left _ ?_) j hj
    rw [get_has hj]
    exact List.mem_cons_self
  | cond c x y ihx ihy => exact ⟨ihx (fun k c h => hl k c (List.mem_append_left _ h)) (fun k c h => hr k c (List.mem_append_left _ h)), ihy (fun k c h => hl k c (List.mem_append_right _ h)) (fun k c h => hr k c (List.mem_append_right _ h))⟩
  | block id c ih => exact ih hl hr
  | loop c ih =>
    refine ⟨ih (fun k c h => hl k c (List.mem_append_right _ h)) hr, fun j hj => ?_⟩
    refine hl (firstId c) c (List.mem_append_left _ ?_) j hj
    rw [get_has hj]
    exact List.mem_cons_self
  | _ => exact trivial
theorem good_by {c : Code} {ll rl : List (Nat × Code)} (h1 : loopsIn (L.loops.map (·.1)) c = ll) (h2 : restsIn (L.joins.map (·.1)) c = rl) (hl : AllL G L calm ret ll) (hr : AllR G L calm ret rl) : Good G L calm ret c :=
  good_of G L calm ret (by rw [h1]; exact hl.mem) (by rw [h2]; exact hr.mem)
end
def AllC (P : Program) : List (Nat × Fn) → Prop
  | [] => True
  | (f, F) :: r => CallOk P f F ∧ AllC P r
theorem AllC.get {P : Program} : ∀ {l : List (Nat × Fn)}, AllC P l → ∀ f F, Go.Proofs.YtkadllkeekoopaaGreat.Abs.get l f = some F → CallOk P f F
  | [], _, _, _, h => by cases h
  | (g, F') :: r, h, f, F, hg => by
    rw [get_cons] at hg
    split at hg
    · rename_i e
      cases hg
      subst e
      exact h.1
    · exact AllC.get h.2 f F hg
theorem seam_eq {ρ : Type} {l : List (Nat × Seam ρ)} {k : Nat} {S : Seam ρ} {p : Seam ρ → Prop} (h : get l k = some S) (hp : p S) : ∀ j, get l k = some j → p j := fun j hj => by
  rw [h] at hj
  cases hj
  exact hp
end Go.Proofs.YtkadllkeekoopaaGreat.Abs
end

section
namespace Go.Proofs.YtkadllkeekoopaaGreat.Abs
open Go.RowKit

/-! ## Operations that leave the rows as they are: their value depends on their operands alone -/
section
variable {ρ : Type} {G : Ctx} {r : ρ}
/-- x is a value: given any way on, it goes on with it. -/
def Is {α : Type} (f : (ρ : Type) → (α → Option ρ) → Option ρ) (c : α) : Prop := ∀ (ρ : Type) (K : α → Option ρ), f ρ K = K c

theorem intBin_is {op : BinOp} {k : IntKind} {x y : Int} {K : C → Option ρ} (h : intBin op k x y K = some r) : ∃ c, K c = some r ∧ Is (fun _ K => intBin op k x y K) c := by
  cases op <;> simp only [intBin] at h
  case quo =>
    split at h
    · cases h
    · rename_i hy
      exact ⟨_, h, fun _ K => by simp only [intBin, if_neg hy]⟩
  case rem =>
    split at h
    · cases h
    · rename_i hy
      exact ⟨_, h, fun _ K => by simp only [intBin, if_neg hy]⟩
  all_goals first | cases h; done | exact ⟨_, h, fun _ K => rfl⟩
theorem strBin_is {op : BinOp} {x y : List UInt8} {K : C → Option ρ} (h : strBin op x y K = some r) : ∃ c, K c = some r ∧ Is (fun _ K => strBin op x y K) c := by
  cases op <;> simp only [strBin] at h
  case add =>
    split at h
    · rename_i hl
      exact ⟨_, h, fun _ K => by simp only [strBin, if_pos hl]⟩
    · cases h
  all_goals first | cases h; done | exact ⟨_, h, fun _ K => rfl⟩
theorem binV_is {bt : Bool} {ft : Option (List Ty)} {ak : Option (Nat × IntKind)} {op : BinOp} {x y : V} {K : C → Option ρ} (h : binV bt ft ak op x y K = some r) : ∃ c, K c = some r ∧ Is (fun _ K => binV bt ft ak op x y K) c := by
  unfold binV at h
  split at h
  · rename_i k m k' n
    split at h
    · split at h
      · cases h
      · rename_i hn
        exact ⟨_, h, fun _ K => by simp only [binV, if_neg hn]⟩
    · split at h
      · cases h
      · rename_i hn
        exact ⟨_, h, fun _ K => by simp only [binV, if_neg hn]⟩
    · rename_i h1 h2
      split at h
      · rename_i e
        obtain ⟨c, hc, hi⟩ := intBin_is h
        refine ⟨c, hc, fun ρ' K' => ?_⟩
        have := hi ρ' K'
        cases op <;> first | exact absurd rfl h1 | exact absurd rfl h2 | (simp only [binV, if_pos e]; exact this)
      · cases h
  · obtain ⟨c, hc, hi⟩ := strBin_is h
    exact ⟨c, hc, fun ρ' K' => hi ρ' K'⟩
  · split at h
    case h_1 => cases h
    rename_i l
    rcases ble_of h with ⟨hb, h'⟩ | ⟨_, h'⟩
    case inr => cases h'
    split at h'
    case h_1 => cases h'
    rename_i b hbb
    cases op <;> simp only [] at h' <;> try cases h'
    · exact ⟨_, h', fun _ K => by simp only [binV, hb, cond_true, hbb]⟩
    · exact ⟨_, h', fun _ K => by simp only [binV, hb, cond_true, hbb]⟩
  · split at h
    case h_1 => cases h
    rcases ble_of h with ⟨hb, h'⟩ | ⟨_, h'⟩
    case inr => cases h'
    cases op <;> simp only [] at h' <;> try cases h'
    · exact ⟨_, h', fun _ K => by simp only [binV, hb, cond_true]⟩
    · exact ⟨_, h', fun _ K => by simp only [binV, hb, cond_true]⟩
  · rcases ble_of h with ⟨hb, h'⟩ | ⟨_, h'⟩
    · subst hb
      split at h'
      · exact ⟨_, h', fun _ K => rfl⟩
      · exact ⟨_, h', fun _ K => rfl⟩
      · cases h'
    · cases h'
  · cases h
theorem cutV_is {T : Tab} {z : Option Nat} {x : V} {lo hi : Option Int} {K : C → Option ρ} (h : cutV T z x lo hi K = some r) : ∃ c, K c = some r ∧ Is (fun _ K => cutV T z x lo hi K) c := by
  unfold cutV at h
  split at h
  · rcases ble_of h with ⟨_, h'⟩ | ⟨hz, h'⟩
    · cases h'
    · split at h'
      · exact ⟨_, h', fun _ K => by simp only [cutV, hz, cond_false]⟩
      all_goals
        split at h'
        · rename_i hb
          exact ⟨_, h', fun _ K => by simp only [cutV, hz, cond_false, if_pos hb]⟩
        · cases h'
  · split at h
    · exact ⟨_, h, fun _ K => rfl⟩
    all_goals
      split at h
      · rename_i hb
        exact ⟨_, h, fun _ K => by simp only [cutV, if_pos hb]⟩
      · cases h
  · split at h
    · cases h
    · rename_i n hn
      split at h
      · exact ⟨_, h, fun _ K => by simp only [cutV, hn]⟩
      all_goals
        split at h
        · rename_i hb
          exact ⟨_, h, fun _ K => by simp only [cutV, hn, if_pos hb]⟩
        · cases h
  · split at h
    · cases h
    · rename_i n hn
      split at h
      · exact ⟨_, h, fun _ K => by simp only [cutV, hn]⟩
      all_goals
        split at h
        · rename_i hb
          exact ⟨_, h, fun _ K => by simp only [cutV, hn, if_pos hb]⟩
        · cases h
  · rcases ble_of h with ⟨_, h'⟩ | ⟨hz, h'⟩
    · cases h'
    · split at h'
      · exact ⟨_, h', fun _ K => by simp only [cutV, hz, cond_false]⟩
      · cases h'
  · cases h
theorem idxAddr_is {T : Tab} {z : Option Nat} {x : V} {i : Int} {K : V → Option ρ} (h : idxAddr T z x i K = some r) : ∃ c, K c = some r ∧ Is (fun _ K => idxAddr T z x i K) c := by
  unfold idxAddr at h
  split at h
  · rcases ble_of h with ⟨_, h'⟩ | ⟨hz, h'⟩
    · cases h'
    · split at h'
      · rename_i hb
        exact ⟨_, h', fun _ K => by simp only [idxAddr, hz, cond_false, if_pos hb]⟩
      · cases h'
  · split at h
    case h_2 => cases h
    rename_i n hn
    split at h
    · rename_i hb
      exact ⟨_, h, fun _ K => by simp only [idxAddr, hn, if_pos hb]⟩
    · cases h
  · split at h
    case h_2 => cases h
    rename_i n hn
    split at h
    · rename_i hb
      exact ⟨_, h, fun _ K => by simp only [idxAddr, hn, if_pos hb]⟩
    · cases h
  · split at h
    case h_2 => cases h
    rename_i hT
    rcases ble_of h with ⟨_, h'⟩ | ⟨hz, h'⟩
    · cases h'
    · split at h'
      · rename_i hb
        exact ⟨_, h', fun _ K => by simp only [idxAddr, hT, hz, cond_false, if_pos hb]⟩
      · cases h'
  · cases h
end
end Go.Proofs.YtkadllkeekoopaaGreat.Abs
end
