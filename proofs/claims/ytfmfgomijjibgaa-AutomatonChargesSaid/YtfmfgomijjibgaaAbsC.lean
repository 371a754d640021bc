import Derived.Orders
import Derived.ChangeArms
import Derived.OpenShut
import Derived.SizedLaws
import Derived.WideShapes
import Derived.ChangeOld
import Derived.Carry
import Derived.JoinedOf
import Derived.Handed
import Derived.RowKit
import Derived.KernelRfl
import Derived.Deep.Slices
import Derived.Test.YtfmfgomijjibgaaAbsB
set_option linter.unusedVariables false
set_option linter.unusedSimpArgs false
section
namespace Go.Proofs.Ytfmfgomijjibgaa.Abs
open Go.RowKit

/-! ## What a function is handed, and what it hands back -/
def retV : List Value → Value
  | [u] => u
  | us => .tuple us.toArray
noncomputable def ghostB : Nat → List (Nat × VSh) → Bool
  | _, [] => true
  | n, (i, _) :: r => Nat.beq i n && ghostB (n + 1) r
/-- First the slots 0, 1, .., then ghosts. -/
noncomputable def numB : Nat → List (Nat × VSh) → Bool
  | _, [] => true
  | n, (i, x) :: r => bif Nat.blt i 1000000 then Nat.beq i n && numB (n + 1) r else ghostB 1000000 ((i, x) :: r)
/-- The Go function g of P does what F says. -/
def FnOk (P : Program) (g : FuncId) (F : Fn) : Prop :=
  ∀ (x : F.din.X) (r : F.dout.X), F.run x = some r → ∀ (fr : Fr) (σ : Nat → Value) (us : List Value), fr.P = P → fr.n = us.length → us.length = cntB F.din.slots → RelS fr σ (unpack F.din x) ⟨us.toArray, []⟩ fr.w0 →
    Calls P g us.toArray fr.w0 fun
      | .returned v, w' => ∃ σ' us', v = retV us' ∧ us'.length = cntB F.dout.slots ∧ RelS { fr with n := us'.length } σ' (unpack F.dout r) ⟨us'.toArray, []⟩ w'
      | _, _ => False
def CallOk (P : Program) (g : FuncId) (F : Fn) : Prop := (∀ args w, (callFunc g args).run P w = .ok (.enter g args) w) ∧ (numB 0 F.dout.slots = true ∧ closed F.dout = true) ∧ FnOk P g F

section
variable {fr : Fr} {σ : Nat → Value} {s : St} {a : Act} {w : World}
theorem alOf_mem {T : Tab} : ∀ {cs : List C} {c : C}, c ∈ cs → alOf T [c] = true → alOf T cs = true
  | c0 :: cs, c, h, hc => by
    have halc : alOf T [c0] = true → alOf T (c0 :: cs) = true := by cases c0 <;> simp [alOf] <;> intro h <;> simp [h]
    have hals : alOf T cs = true → alOf T (c0 :: cs) = true := by cases c0 <;> simp [alOf] <;> intro h <;> simp [h]
    cases h with
    | head => exact halc hc
    | tail _ h => exact hals (alOf_mem h hc)
theorem idsOf_mem : ∀ {cs : List C} {c : C} {i : Nat}, c ∈ cs → i ∈ idsOf [c] → i ∈ idsOf cs
  | c0 :: cs, c, i, h, hc => by
    have hidc : ∀ i, i ∈ idsOf [c0] → i ∈ idsOf (c0 :: cs) := by cases c0 <;> simp [idsOf]
    have hids : ∀ i, i ∈ idsOf cs → i ∈ idsOf (c0 :: cs) := by cases c0 <;> simp [idsOf] <;> intro i h <;> exact .inr h
    cases h with
    | head => exact hidc i hc
    | tail _ h => exact hids i (idsOf_mem h hc)

/-- A call's own frame. -/
structure Callee (fr : Fr) (σ : Nat → Value) (s : St) (w : World) (objs : List (Nat × OSh)) (cs : List C) (fr' : Fr) (T' : Tab) : Prop where
  w0 : fr'.w0 = w
  fa : fr'.FA = Reach fr σ s.T w cs
  mb : ∀ id o b, (get objs id).isSome = true → get s.T id = some o → blk (σ id) = some b → fr'.MB b
  new : fr'.new = fun b => w.heap.size ≤ b ∨ fr'.MB b
  tab : ∀ id, (get objs id).isSome = true → ∀ o, get s.T id = some o → ∃ o', get T' id = some o' ∧ okind o' = okind o
  own : ∀ id o', get T' id = some o' → (get objs id).isSome = true ∧ ∃ o, get s.T id = some o
theorem Callee.foot (R : RelS fr σ s a w) {objs : List (Nat × OSh)} {cs : List C} {fr' : Fr} {T' : Tab} (h : Callee fr σ s w objs cs fr' T') {al : Bool} (hal : al = true → alOf s.T cs = true) {b : Nat} (hb : Foot fr σ s.T w al b) : Foot fr' σ T' w true b := by
  have _ := R
  refine ⟨hb.1, fun ⟨i, o', hi, hbl⟩ => ?_, .inr ⟨rfl, ?_⟩⟩
  · obtain ⟨_, o, ho⟩ := h.own i o' hi
    exact hb.2.1 ⟨i, o, ho, hbl⟩
  · rw [h.fa]
    exact .inl (hb.up hal)
theorem Callee.ownFoot (R : RelS fr σ s a w) {objs : List (Nat × OSh)} {cs : List C} {fr' : Fr} {T' : Tab} (h : Callee fr σ s w objs cs fr' T') {id : Nat} {o : Obj} (hn : get objs id = none) (ho : get s.T id = some o) (hm : id ∈ idsOf cs) {b : Nat} (hb : blk (σ id) = some b) : Foot fr' σ T' w true b := by
  refine ⟨((R.objs id o ho).lt b hb).2, fun ⟨i, o', hi, hbl⟩ => ?_, .inr ⟨rfl, ?_⟩⟩
  · obtain ⟨hs, o1, ho1⟩ := h.own i o' hi
    exact R.dist i o1 id o ho1 ho (fun e => by rw [e, hn] at hs; cases hs) b hbl hb
  · rw [h.fa]
    exact .inr ⟨id, hm, o, ho, hb⟩
theorem Callee.cr (R : RelS fr σ s a w) {objs : List (Nat × OSh)} {cs : List C} {fr' : Fr} {T' : Tab} (h : Callee fr σ s w objs cs fr' T') {c c' : C} (hc : c ∈ cs) (hr : readC s.T objs c = some c') {v : Value} (hv : CR fr σ s.T w c v) : CR fr' σ T' w c' v := by
  cases c with
  | int k n => cases hr; exact hv
  | bool b => cases hr; exact hv
  | str b => cases hr; exact hv
  | nil => cases hr; exact hv
  | undef => cases hr
  | sl al t xs =>
    cases hr
    exact KF.imp (fun b hb => ⟨h.foot R (fun ha => alOf_mem hc (by simp [alOf, ha])) hb, rfl⟩) (.sl t) xs [v] hv
  | own id =>
    obtain ⟨rfl, o, ho⟩ := hv
    simp only [readC] at hr
    cases hg : get objs id with
    | some sh =>
      rw [hg] at hr
      cases hr
      obtain ⟨o', ho', _⟩ := h.tab id (by rw [hg]; rfl) o ho
      exact ⟨rfl, o', ho'⟩
    | none =>
      rw [hg] at hr
      simp only [ho] at hr
      cases o with
      | row e al t xs =>
        cases hr
        exact row_whole (R.objs id _ ho) (fun b hb => h.foot R (fun ha => alOf_mem hc (by simp [alOf, ho, ha])) hb) (fun b hb => h.ownFoot R hg ho (idsOf_mem hc (by simp [idsOf])) hb)
      | _ => cases hr
  | view id lo len =>
    have hv' := hv
    obtain ⟨o, A, n, cap, A', c0, ho, h1, h2, h3, h4, h5, h6⟩ := hv
    simp only [readC] at hr
    cases hg : get objs id with
    | some sh =>
      rw [hg] at hr
      cases hr
      obtain ⟨o', ho', hk⟩ := h.tab id (by rw [hg]; rfl) o ho
      exact ⟨o', A, n, cap, A', c0, ho', h1, h2, h3, h4, h5, by rw [okind_size hk]; exact h6⟩
    | none =>
      rw [hg] at hr
      simp only [ho] at hr
      cases o with
      | row e al t xs =>
        cases hr
        exact (row_part (R.objs id _ ho) (fun b hb => h.foot R (fun ha => alOf_mem hc (by simp [alOf, ho, ha])) hb) (fun b hb => h.ownFoot R hg ho (idsOf_mem hc (by simp [idsOf])) hb) ho hv').2
      | _ => cases hr
theorem Callee.crs (R : RelS fr σ s a w) {objs : List (Nat × OSh)} {cs : List C} {fr' : Fr} {T' : Tab} (h : Callee fr σ s w objs cs fr' T') : ∀ {ds ds' : List C} {vs : List Value}, (∀ c ∈ ds, c ∈ cs) → readCs s.T objs ds = some ds' → CRs fr σ s.T w ds vs → CRs fr' σ T' w ds' vs
  | [], ds', vs, _, hr, hv => by
    cases hr
    cases vs with
    | nil => trivial
    | cons _ _ => exact hv.elim
  | c :: ds, ds', vs, hm, hr, hv => by
    simp only [readCs] at hr
    split at hr
    case h_2 => cases hr
    rename_i c' hc'
    split at hr
    case h_2 => cases hr
    rename_i r' hr'
    cases hr
    cases vs with
    | nil => exact hv.elim
    | cons v vs => exact ⟨h.cr R (hm c List.mem_cons_self) hc' hv.1, h.crs R (fun c hc => hm c (List.mem_cons_of_mem _ hc)) hr' hv.2⟩
theorem Callee.vr (R : RelS fr σ s a w) {objs : List (Nat × OSh)} {cs : List C} {fr' : Fr} {T' : Tab} (h : Callee fr σ s w objs cs fr' T') {v v' : V} (hm : ∀ c ∈ argCells [v], c ∈ cs) (hr : readV s.T objs v = some v') {u : Value} (hv : VR fr σ s.T w v u) : VR fr' σ T' w v' u := by
  cases v with
  | c x =>
    simp only [readV] at hr
    split at hr
    case h_2 => cases hr
    rename_i x' hx
    cases hr
    exact h.cr R (hm x (by simp [argCells])) hx hv
  | agg cs0 =>
    simp only [readV] at hr
    split at hr
    case h_2 => cases hr
    rename_i cs' hcs
    cases hr
    obtain ⟨arr, rfl, hA⟩ := hv
    exact ⟨arr, rfl, h.crs R (fun c hc => hm c (by simpa [argCells] using hc)) hcs hA⟩
  | av n t xs =>
    cases hr
    exact hv
  | pt id off =>
    simp only [readV] at hr
    split at hr
    case h_2 => cases hr
    rename_i sh hg
    cases hr
    obtain ⟨o, a0, ho, h1, h2, h3⟩ := hv
    obtain ⟨o', ho', _⟩ := h.tab id (by rw [hg]; rfl) o ho
    exact ⟨o', a0, ho', h1, h2, h3⟩
  | _ => cases hr
theorem Callee.or (R : RelS fr σ s a w) {objs : List (Nat × OSh)} {cs : List C} {fr' : Fr} {T' : Tab} (h : Callee fr σ s w objs cs fr' T') {id : Nat} {o o' : Obj} (hid : (get objs id).isSome = true) (ho : get s.T id = some o) (hm : C.own id ∈ cs) (hb : ∀ ty ds, o = .box ty ds → ∀ c ∈ ds, c ∈ cs) (hr : readO s.T objs o = some o') : OR fr' σ T' w id o' := by
  have hmb : ∀ b, blk (σ id) = some b → fr'.new b := fun b hb => by
    rw [h.new]
    exact .inr (h.mb id o b hid ho hb)
  have hR := R.objs id o ho
  cases o with
  | row e al t xs =>
    cases hr
    obtain ⟨inner, how, _, hk⟩ := hR
    refine ⟨inner, how, hmb, fun i x hi => ?_⟩
    cases hs : t.hasSl with
    | false => exact KF.noSl t x _ hs (hk i x hi)
    | true => exact KF.imp (fun b hb => ⟨h.foot R (fun ha => alOf_mem hm (by simp [alOf, ho, ha])) hb, rfl⟩) t x _ (hk i x hi)
  | box ty ds =>
    simp only [readO] at hr
    split at hr
    case h_2 => cases hr
    rename_i ds' hds
    cases hr
    obtain ⟨g, arr, h1, h2, h3, h4⟩ := hR
    exact ⟨g, arr, h1, hmb g (by rw [h1]; rfl), h3, h.crs R (hb ty ds rfl) hds h4⟩
  | arr ty n t xs =>
    cases hr
    obtain ⟨g, arr, h1, h2, h3, h4⟩ := hR
    exact ⟨g, arr, h1, hmb g (by rw [h1]; rfl), h3, h4⟩
  | win _ _ _ => cases hr

theorem readT_spec {T : Tab} {objs : List (Nat × OSh)} : ∀ {l : List (Nat × OSh)} {T' : Tab}, readT T objs l = some T' → ∀ id, match get l id with
    | some _ => ∃ o o', get T id = some o ∧ readO T objs o = some o' ∧ get T' id = some o'
    | none => get T' id = none
  | [], T', h, id => by
    cases h
    rfl
  | (i, x) :: l, T', h, id => by
    simp only [readT] at h
    split at h
    case h_2 => cases h
    rename_i o ho
    split at h
    case h_2 => cases h
    rename_i o' ho'
    split at h
    case h_2 => cases h
    rename_i r' hr'
    cases h
    have ih := readT_spec hr' id
    rw [get_cons]
    by_cases e : i = id
    · subst e
      simp only [if_pos]
      exact ⟨o, o', ho, ho', by rw [get_cons, if_pos rfl]⟩
    · simp only [if_neg e]
      rw [get_cons, if_neg e]
      exact ih
theorem readO_kind {T : Tab} {objs : List (Nat × OSh)} {o o' : Obj} (h : readO T objs o = some o') : okind o' = okind o := by
  cases o with
  | row e al t xs => cases h; rfl
  | box ty ds =>
    simp only [readO] at h
    split at h
    · cases h; rfl
    · cases h
  | arr ty n t xs => cases h; rfl
  | win _ _ _ => cases h
theorem readE_spec {T : Tab} {objs : List (Nat × OSh)} : ∀ {e e' : Env}, readE T objs e = some e' → ∀ i v', get e' i = some v' → ∃ v, get e i = some v ∧ readV T objs v = some v'
  | [], e', h, i, v', hi => by
    cases h
    cases hi
  | (j, v) :: e, e', h, i, v', hi => by
    simp only [readE] at h
    split at h
    case h_2 => cases h
    rename_i v1 hv1
    split at h
    case h_2 => cases h
    rename_i r' hr'
    cases h
    rw [get_cons] at hi ⊢
    split at hi
    · rename_i e1
      cases hi
      exact ⟨v, by rw [if_pos e1], hv1⟩
    · rename_i e1
      rw [if_neg e1]
      exact readE_spec hr' i v' hi
theorem argCells_get : ∀ {e : Env} {i : Nat} {v : V}, get e i = some v → ∀ c ∈ argCells [v], c ∈ argCells (valsOf e)
  | (j, u) :: e, i, v, h, c, hc => by
    rw [get_cons] at h
    have step : ∀ x, x ∈ argCells (valsOf e) → x ∈ argCells (valsOf ((j, u) :: e)) := fun x hx => by
      cases u <;> simp only [valsOf, argCells, List.mem_cons, List.mem_append] <;> first | exact .inr hx | exact hx
    split at h
    · cases h
      cases u <;> simp_all [valsOf, argCells]
    · exact step c (argCells_get h c hc)
  | [], _, _, h, _, _ => by cases h

/-- What is handed over, as the function that is called sees it. -/
theorem callee_rel (R : RelS fr σ s a w) {objs : List (Nat × OSh)} {cs : List C} {fr' : Fr} {T' : Tab} {e e' : Env} (hT : readT s.T objs objs = some T') (he : readE s.T objs e = some e')
    (hw : fr'.w0 = w) (hfa : fr'.FA = Reach fr σ s.T w cs) (hmb : fr'.MB = fun b => ∃ id o, (get objs id).isSome = true ∧ get s.T id = some o ∧ blk (σ id) = some b) (hnew : fr'.new = fun b => w.heap.size ≤ b ∨ fr'.MB b)
    {us : List Value} (hn : fr'.n = us.length) (hsm : us.length ≤ 1000000) (hec : ∀ i v, get e i = some v → (∀ c ∈ argCells [v], c ∈ cs) ∧ VR fr σ s.T w v (fr'.val ⟨us.toArray, []⟩ i))
    (hown : ∀ id, (get objs id).isSome = true → C.own id ∈ cs) (hbox : ∀ id ty ds, (get objs id).isSome = true → get s.T id = some (.box ty ds) → ∀ c ∈ ds, c ∈ cs) : RelS fr' σ ⟨e', T'⟩ ⟨us.toArray, []⟩ w := by
  have hsp := readT_spec hT
  have some_of : ∀ id o', get T' id = some o' → (get objs id).isSome = true ∧ ∃ o, get s.T id = some o ∧ readO s.T objs o = some o' := fun id o' hi => by
    have := hsp id
    cases hg : get objs id with
    | none => rw [hg] at this; rw [this] at hi; cases hi
    | some sh =>
      rw [hg] at this
      obtain ⟨o, o1, h1, h2, h3⟩ := this
      rw [h3] at hi
      cases hi
      exact ⟨rfl, o, h1, h2⟩
  have hC : Callee fr σ s w objs cs fr' T' := by
    refine ⟨hw, hfa, fun id o b h1 h2 h3 => by rw [hmb]; exact ⟨id, o, h1, h2, h3⟩, hnew, fun id hid o ho => ?_, fun id o' hi => ?_⟩
    · have := hsp id
      cases hg : get objs id with
      | none => rw [hg] at hid; cases hid
      | some sh =>
        rw [hg] at this
        obtain ⟨o0, o1, h1, h2, h3⟩ := this
        rw [ho] at h1
        cases h1
        exact ⟨o1, h3, readO_kind h2⟩
    · obtain ⟨h1, o, h2, _⟩ := some_of id o' hi
      exact ⟨h1, o, h2⟩
  refine ⟨⟨by rw [hw], by rw [hw], by rw [hw], by rw [hw]; exact Nat.le_refl _, fun k _ _ => by rw [hw], fun k hk => by rw [hnew]; exact .inl hk, fun k hk => by rw [hnew] at hk; rw [hw]; exact hk⟩, fun b hb => ?_, fun i o1 j o2 hi hj hij => ?_, fun i o' hi => ?_, fun i v' hi => ?_, by rw [hn]; simp, by rw [hn]; exact hsm, rfl⟩
  · rw [hfa] at hb
    rw [hw]
    rcases hb with hb | ⟨i, _, o, ho, hb⟩
    · exact hb.1
    · exact ((R.objs i o ho).lt b hb).2
  · obtain ⟨_, p, hp, _⟩ := some_of i o1 hi
    obtain ⟨_, q, hq, _⟩ := some_of j o2 hj
    exact R.dist i p j q hp hq hij
  · obtain ⟨h1, o, h2, h3⟩ := some_of i o' hi
    exact hC.or R h1 h2 (hown i h1) (fun ty ds e => hbox i ty ds h1 (by rw [h2, e])) h3
  · obtain ⟨v, hv, hr⟩ := readE_spec he i v' hi
    obtain ⟨h1, h2⟩ := hec i v hv
    exact hC.vr R h1 hr h2
end
end Go.Proofs.Ytfmfgomijjibgaa.Abs
end

section
namespace Go.Proofs.Ytfmfgomijjibgaa.Abs
open Go.RowKit

section
variable {fr : Fr} {σ : Nat → Value} {s : St} {a : Act} {w : World}

/-! ## Objects that are handed over for good -/
def avoid (fr : Fr) (H : Nat → Prop) : Fr := { fr with FA := fun b => fr.FA b ∧ ¬ H b, new := fun b => fr.new b ∧ ¬ H b }
def lost (σ : Nat → Value) (T : Tab) (id b : Nat) : Prop := ∃ o, get T id = some o ∧ blk (σ id) = some b
theorem RelS.dropO (R : RelS fr σ s a w) (id : Nat) : RelS (avoid fr (lost σ s.T id)) σ (Go.Proofs.Ytfmfgomijjibgaa.Abs.dropO id s) a w := by
  have hget : ∀ i, get (Go.Proofs.Ytfmfgomijjibgaa.Abs.dropO id s).T i = if id = i then none else (get s.T i).map (mapO (purgeC id)) := fun i => by
    simp only [Go.Proofs.Ytfmfgomijjibgaa.Abs.dropO, get_mapT, get_del]
    by_cases e : id = i <;> simp [e]
  have old : ∀ i o1, get (Go.Proofs.Ytfmfgomijjibgaa.Abs.dropO id s).T i = some o1 → id ≠ i ∧ ∃ o2, get s.T i = some o2 ∧ o1 = mapO (purgeC id) o2 := fun i o1 hi => by
    rw [hget] at hi
    split at hi
    · cases hi
    · rename_i e
      cases hi' : get s.T i with
      | none => rw [hi'] at hi; cases hi
      | some o2 =>
        rw [hi'] at hi
        simp at hi
        exact ⟨e, o2, rfl, hi.symm⟩
  have hfoot : ∀ al b, Foot fr σ s.T w al b → Foot (avoid fr (lost σ s.T id)) σ (Go.Proofs.Ytfmfgomijjibgaa.Abs.dropO id s).T w al b ∧ w.heap[b]? = w.heap[b]? := fun al b hf => by
    have hl : ¬ lost σ s.T id b := fun ⟨o, ho, hb⟩ => hf.2.1 ⟨id, o, ho, hb⟩
    refine ⟨⟨hf.1, fun ⟨i, o1, hi, hb⟩ => ?_, hf.2.2.imp (fun h => ⟨h, hl⟩) (fun h => ⟨h.1, h.2, hl⟩)⟩, rfl⟩
    obtain ⟨_, o2, h2, _⟩ := old i o1 hi
    exact hf.2.1 ⟨i, o2, h2, hb⟩
  have hkeep : ∀ i o1, i ≠ id → get s.T i = some o1 → ∃ o2, get (Go.Proofs.Ytfmfgomijjibgaa.Abs.dropO id s).T i = some o2 ∧ σ i = σ i ∧ okind o2 = okind o1 := fun i o1 hi h =>
    ⟨mapO (purgeC id) o1, by rw [hget, if_neg (Ne.symm hi), h]; rfl, rfl, by cases o1 <;> rfl⟩
  have hm : Mv fr (avoid fr (lost σ s.T id)) σ s.T w σ (Go.Proofs.Ytfmfgomijjibgaa.Abs.dropO id s).T w (purgeC id) (fun i => !Nat.beq i id) _root_.id :=
    ⟨hfoot, purge_cr R hfoot hkeep, fun i o1 h hi => hkeep i o1 (fun e => by subst e; simp at hi) h⟩
  refine ⟨⟨R.kept.os, R.kept.tape, R.kept.output, R.kept.size, R.kept.block, fun k hk => ⟨R.kept.fresh k hk, fun ⟨o, ho, hb⟩ => ?_⟩, fun k hk => R.kept.nmb k hk.1⟩, fun b hb => R.fa b hb.1, ?_, ?_, fun i v hi => ?_, R.tmps, R.small, R.defers⟩
  · have := ((R.objs id o ho).lt k hb).2
    omega
  · intro i o1 j o2 hi hj hij
    obtain ⟨_, p, hp, _⟩ := old i o1 hi
    obtain ⟨_, q, hq, _⟩ := old j o2 hj
    exact R.dist i p j q hp hq hij
  · intro i o1 hi
    obtain ⟨e, p, hp, rfl⟩ := old i o1 hi
    exact hm.or2 (R.objs i p hp) rfl (fun b hb h => ⟨h, fun ⟨o, ho, hb'⟩ => R.dist id o i p ho hp e b hb' hb⟩) fun _ _ => rfl
  · have hi' : get (mapE (purgeC id) (fun i => !Nat.beq i id) s.env) i = some v := hi
    rw [get_mapE] at hi'
    cases hv : get s.env i with
    | none => rw [hv] at hi'; cases hi'
    | some v0 =>
      rw [hv] at hi'
      simp at hi'
      subst hi'
      exact hm.vr (R.env i v0 hv)
/-- What the frame is behind several such. -/
structure Less (fr frD : Fr) : Prop where
  P : frD.P = fr.P
  w0 : frD.w0 = fr.w0
  n : frD.n = fr.n
  gh : frD.gh = fr.gh
  mb : frD.MB = fr.MB
  new : ∀ b, frD.new b → fr.new b
  fa : ∀ b, frD.FA b → fr.FA b
theorem Less.refl (fr : Fr) : Less fr fr := ⟨rfl, rfl, rfl, rfl, rfl, fun _ h => h, fun _ h => h⟩
theorem Less.avoid {fr frD : Fr} {H : Nat → Prop} (h : Less (avoid fr H) frD) : Less fr frD := ⟨h.P, h.w0, h.n, h.gh, h.mb, fun b hb => (h.new b hb).1, fun b hb => (h.fa b hb).1⟩
theorem get_keys {α : Type} {l : List (Nat × α)} {i : Nat} : (get l i).isSome = true ↔ ∃ x, (i, x) ∈ l := by
  induction l with
  | nil => simp [get]
  | cons p r ih =>
    obtain ⟨j, y⟩ := p
    rw [get_cons]
    by_cases e : j = i
    · subst e
      simp only [if_true, Option.isSome_some, true_iff]
      exact ⟨y, List.mem_cons_self⟩
    · rw [if_neg e, ih]
      constructor
      · rintro ⟨x, hx⟩; exact ⟨x, List.mem_cons_of_mem _ hx⟩
      · rintro ⟨x, hx⟩
        cases hx with
        | head => exact absurd rfl e
        | tail _ hx => exact ⟨x, hx⟩
theorem RelS.dropAll {gb : List Nat} : ∀ (l : List (Nat × OSh)) {fr : Fr} {s : St}, RelS fr σ s a w → ∃ frD, Less fr frD ∧ RelS frD σ (dropAll gb l s) a w ∧
    (∀ id, (get l id).isSome = true → has gb id = false → (∀ o b, get s.T id = some o → blk (σ id) = some b → ¬ frD.new b ∧ ¬ frD.FA b) ∧ get (Go.Proofs.Ytfmfgomijjibgaa.Abs.dropAll gb l s).T id = none) ∧
    (∀ id o, get (Go.Proofs.Ytfmfgomijjibgaa.Abs.dropAll gb l s).T id = some o → ∃ o', get s.T id = some o' ∧ okind o' = okind o) ∧ (∀ id, ((get l id).isSome = false ∨ has gb id = true) → ∀ o, get s.T id = some o → ∃ o', get (Go.Proofs.Ytfmfgomijjibgaa.Abs.dropAll gb l s).T id = some o' ∧ okind o' = okind o) ∧ (∀ al b, Foot fr σ s.T w al b → Foot frD σ (Go.Proofs.Ytfmfgomijjibgaa.Abs.dropAll gb l s).T w al b)
  | [], fr, s, R => ⟨fr, .refl fr, R, fun id h => by simp [get] at h, fun id o h => ⟨o, h, rfl⟩, fun id _ o h => ⟨o, h, rfl⟩, fun _ _ h => h⟩
  | (i, x) :: l, fr, s, R => by
    simp only [Go.Proofs.Ytfmfgomijjibgaa.Abs.dropAll]
    cases hg : has gb i with
    | true =>
      simp only [cond_true]
      obtain ⟨frD, h1, h2, h3, h4, h5, h6⟩ := RelS.dropAll l R
      refine ⟨frD, h1, h2, fun id hid hb => ?_, h4, fun id hid => h5 id (hid.imp (fun h => ?_) (fun h => h)), h6⟩
      · rw [get_cons] at hid
        split at hid
        · rename_i e; subst e; rw [hg] at hb; cases hb
        · exact h3 id hid hb
      · rw [get_cons] at h
        split at h
        · cases h
        · exact h
    | false =>
      simp only [cond_false]
      have hget : ∀ k, get (Go.Proofs.Ytfmfgomijjibgaa.Abs.dropO i s).T k = if i = k then none else (get s.T k).map (mapO (purgeC i)) := fun k => by
        simp only [Go.Proofs.Ytfmfgomijjibgaa.Abs.dropO, get_mapT, get_del]
        by_cases e : i = k <;> simp [e]
      obtain ⟨frD, h1, h2, h3, h4, h5, h6⟩ := RelS.dropAll l (R.dropO i)
      have back : ∀ id o, get (Go.Proofs.Ytfmfgomijjibgaa.Abs.dropO i s).T id = some o → ∃ o', get s.T id = some o' ∧ okind o' = okind o ∧ i ≠ id := fun id o ho => by
        rw [hget] at ho
        split at ho
        · cases ho
        · rename_i e
          cases h : get s.T id with
          | none => rw [h] at ho; cases ho
          | some o2 =>
            rw [h] at ho
            simp at ho
            subst ho
            exact ⟨o2, rfl, by cases o2 <;> rfl, e⟩
      have hfoot : ∀ al b, Foot fr σ s.T w al b → Foot (Go.Proofs.Ytfmfgomijjibgaa.Abs.avoid fr (lost σ s.T i)) σ (Go.Proofs.Ytfmfgomijjibgaa.Abs.dropO i s).T w al b := fun al b hf => by
        have hl : ¬ lost σ s.T i b := fun ⟨o, ho, hb⟩ => hf.2.1 ⟨i, o, ho, hb⟩
        refine ⟨hf.1, fun ⟨k, o1, hi, hb⟩ => ?_, hf.2.2.imp (fun h => ⟨h, hl⟩) (fun h => ⟨h.1, h.2, hl⟩)⟩
        obtain ⟨o2, h2, _⟩ := back k o1 hi
        exact hf.2.1 ⟨k, o2, h2, hb⟩
      refine ⟨frD, h1.avoid, h2, fun id hid hb => ?_, fun id o ho => ?_, fun id hid o ho => ?_, fun al b hf => h6 al b (hfoot al b hf)⟩
      · rw [get_cons] at hid
        by_cases e : i = id
        · subst e
          refine ⟨fun o b ho hbk => ⟨fun hn => (h1.new b hn).2 ⟨o, ho, hbk⟩, fun hn => (h1.fa b hn).2 ⟨o, ho, hbk⟩⟩, ?_⟩
          cases hn : get (Go.Proofs.Ytfmfgomijjibgaa.Abs.dropAll gb l (Go.Proofs.Ytfmfgomijjibgaa.Abs.dropO i s)).T i with
          | none => rfl
          | some o =>
            obtain ⟨o', ho', _⟩ := h4 i o hn
            obtain ⟨_, _, _, hne⟩ := back i o' ho'
            exact absurd rfl hne
        · rw [if_neg e] at hid
          obtain ⟨p1, p2⟩ := h3 id hid hb
          refine ⟨fun o b ho hbk => p1 (mapO (purgeC i) o) b (by rw [hget, if_neg e, ho]; rfl) hbk, p2⟩
      · obtain ⟨o', ho', hk⟩ := h4 id o ho
        obtain ⟨o2, h2, hk2, _⟩ := back id o' ho'
        exact ⟨o2, h2, hk2.trans hk⟩
      · have hne : i ≠ id := fun e => by
          subst e
          rcases hid with h | h
          · rw [get_cons, if_pos rfl] at h; cases h
          · rw [hg] at h; cases h
        obtain ⟨o', ho', hk⟩ := h5 id (hid.imp (fun h => by rw [get_cons, if_neg hne] at h; exact h) (fun h => h)) (mapO (purgeC i) o) (by rw [hget, if_neg hne, ho]; rfl)
        exact ⟨o', ho', hk.trans (by cases o <;> rfl)⟩

/-! ## What comes back joins what is there -/
theorem hN_gb {gb : List Nat} {b id : Nat} (h : has gb id = true) : hN gb b id = id := by simp [hN, h]
theorem hN_new {gb : List Nat} {b id : Nat} (h : has gb id = false) : hN gb b id = b + id := by simp [hN, h]
theorem addObjs_spec {al : Bool} {gb : List Nat} {b : Nat} : ∀ {L : Tab} {s s' : St}, addObjs al gb b L s = some s' → (∀ i, has gb i = true → (get L i).isSome = true → ∃ o, get s.T i = some o) →
    s'.env = s.env ∧
    (∀ k o', get s'.T k = some o' → (get s.T k = some o' ∧ ¬ (has gb k = true ∧ (get L k).isSome = true)) ∨ (has gb k = true ∧ ∃ o, get L k = some o ∧ o' = fixO al gb b o) ∨ (∃ id o, has gb id = false ∧ get L id = some o ∧ k = b + id ∧ o' = fixO al gb b o ∧ get s.T k = none)) ∧
    (∀ id o, get L id = some o → get s'.T (hN gb b id) = some (fixO al gb b o)) ∧
    (∀ k o, get s.T k = some o → (has gb k = true ∧ (get L k).isSome = true) ∨ get s'.T k = some o) ∧
    (∀ id o, get L id = some o → has gb id = false → get s.T (b + id) = none)
  | [], s, s', h, _ => by
    cases h
    exact ⟨rfl, fun k o' h => .inl ⟨h, fun h => by simp [get] at h⟩, fun id o (h : get [] id = some o) => by simp [get] at h, fun k o h => .inr h, fun id o (h : get [] id = some o) => by simp [get] at h⟩
  | (i, x) :: L, s, s', h, hp => by
    simp only [addObjs] at h
    split at h
    case h_2 => cases h
    rename_i s1 hs1
    have hp' : ∀ j, has gb j = true → (get L j).isSome = true → ∃ o, get s.T j = some o := fun j hj hs => hp j hj (by
      rw [get_cons]
      split
      · rfl
      · exact hs)
    obtain ⟨e1, e2, e3, e4, e5⟩ := addObjs_spec hs1 hp'
    cases hg : has gb i with
    | true =>
      rw [hg] at h
      simp only [cond_true, Option.some.injEq] at h
      subst h
      obtain ⟨oi, hoi⟩ := hp i hg (by rw [get_cons, if_pos rfl]; rfl)
      have hset : ∀ k, get (setO i (fixO al gb b x) s1).T k = if i = k then some (fixO al gb b x) else get s1.T k := fun k => by
        simp only [setO, get_cons, get_del]
        by_cases e : i = k <;> simp [e]
      refine ⟨e1, fun k o' hk => ?_, fun id o ho => ?_, fun k o hk => ?_, fun id o ho hn => ?_⟩
      · rw [hset] at hk
        by_cases e : i = k
        · subst e
          simp at hk
          exact .inr (.inl ⟨hg, x, by rw [get_cons, if_pos rfl], hk.symm⟩)
        · rw [if_neg e] at hk
          rcases e2 k o' hk with ⟨h1, h2⟩ | ⟨h1, o, h2, h3⟩ | ⟨id, o, h1, h2, h3, h4, h5⟩
          · exact .inl ⟨h1, fun h => h2 ⟨h.1, by rw [get_cons, if_neg e] at h; exact h.2⟩⟩
          · exact .inr (.inl ⟨h1, o, by rw [get_cons, if_neg e]; exact h2, h3⟩)
          · have hne : i ≠ id := fun e => by subst e; rw [hg] at h1; cases h1
            exact .inr (.inr ⟨id, o, h1, by rw [get_cons, if_neg hne]; exact h2, h3, h4, h5⟩)
      · rw [hset]
        rw [get_cons] at ho
        by_cases e : i = id
        · subst e
          simp at ho
          subst ho
          rw [hN_gb hg, if_pos rfl]
        · rw [if_neg e] at ho
          have hne : i ≠ hN gb b id := fun e' => by
            cases hgi : has gb id with
            | true => rw [hN_gb hgi] at e'; exact e e'
            | false =>
              have := e5 id o ho hgi
              rw [hN_new hgi] at e'
              rw [← e', hoi] at this
              cases this
          rw [if_neg hne]
          exact e3 id o ho
      · by_cases e : i = k
        · subst e
          exact .inl ⟨hg, by rw [get_cons, if_pos rfl]; rfl⟩
        · rcases e4 k o hk with h1 | h1
          · exact .inl ⟨h1.1, by rw [get_cons, if_neg e]; exact h1.2⟩
          · exact .inr (by rw [hset, if_neg e]; exact h1)
      · have hne : i ≠ id := fun e => by subst e; rw [hg] at hn; cases hn
        rw [get_cons, if_neg hne] at ho
        exact e5 id o ho hn
    | false =>
      rw [hg] at h
      simp only [cond_false] at h
      obtain ⟨hfree, rfl⟩ := newO_some h
      have hfree0 : get s.T (b + i) = none := by
        cases hs : get s.T (b + i) with
        | none => rfl
        | some o =>
          rcases e4 _ o hs with ⟨h1, h2⟩ | h1
          · cases hLi : get L (b + i) with
            | none => rw [hLi] at h2; cases h2
            | some o2 =>
              have := e3 _ o2 hLi
              rw [hN_gb h1, hfree] at this
              cases this
          · rw [hfree] at h1
            cases h1
      refine ⟨e1, fun k o' hk => ?_, fun id o ho => ?_, fun k o hk => ?_, fun id o ho hn => ?_⟩
      · rw [get_cons] at hk
        by_cases e : b + i = k
        · subst e
          simp at hk
          exact .inr (.inr ⟨i, x, hg, by rw [get_cons, if_pos rfl], rfl, hk.symm, hfree0⟩)
        · rw [if_neg e] at hk
          have hgk : ∀ {p : Prop}, has gb k = true → (i = k → p) := fun h e' => by rw [← e', hg] at h; cases h
          rcases e2 k o' hk with ⟨h1, h2⟩ | ⟨h1, o, h2, h3⟩ | ⟨id, o, h1, h2, h3, h4, h5⟩
          · exact .inl ⟨h1, fun h => h2 ⟨h.1, by
              have := h.2
              rw [get_cons] at this
              split at this
              · rename_i e'
                exact hgk h.1 e'
              · exact this⟩⟩
          · exact .inr (.inl ⟨h1, o, by rw [get_cons, if_neg (fun e' => hgk h1 e')]; exact h2, h3⟩)
          · have hne : i ≠ id := fun e' => e (by rw [e', h3])
            exact .inr (.inr ⟨id, o, h1, by rw [get_cons, if_neg hne]; exact h2, h3, h4, h5⟩)
      · rw [get_cons] at ho ⊢
        by_cases e : i = id
        · subst e
          simp at ho
          subst ho
          rw [hN_new hg, if_pos rfl]
        · rw [if_neg e] at ho
          have := e3 id o ho
          have hne : b + i ≠ hN gb b id := fun e' => by rw [← e', hfree] at this; cases this
          rw [if_neg hne]
          exact this
      · rcases e4 k o hk with h1 | h1
        · refine .inl ⟨h1.1, ?_⟩
          rw [get_cons]
          split
          · rfl
          · exact h1.2
        · refine .inr ?_
          have hne : b + i ≠ k := fun e' => by rw [← e', hfree] at h1; cases h1
          rw [get_cons, if_neg hne]
          exact h1
      · rw [get_cons] at ho
        by_cases e : i = id
        · subst e
          exact hfree0
        · rw [if_neg e] at ho
          exact e5 id o ho hn

noncomputable def cFlag : C → Bool
  | .sl al _ _ => al
  | _ => false
def oFlag : Obj → Prop
  | .row _ al _ _ => al = true
  | .box _ cs => ∃ c ∈ cs, cFlag c = true
  | _ => False

theorem merge {frD fro : Fr} {σo : Nat → Value} {so s' : St} {ao : Act} {w' : World} {gb : List Nat} {b0 : Nat} {ha al : Bool} (R : RelS frD σ s a w) (Ro : RelS fro σo so ao w') (hw : fro.w0 = w) (hL : Less fr frD) (hfrfa : ∀ b, fr.FA b → b < fr.w0.heap.size) (hnmb : ∀ k, fr.new k → fr.w0.heap.size ≤ k ∨ fr.MB k)
    (hmb : ∀ b, fro.MB b → fr.new b ∧ b < w.heap.size ∧ ((∃ i o, has gb i = true ∧ get s.T i = some o ∧ blk (σ i) = some b) ∨ (¬ frD.new b ∧ ¬ frD.FA b)))
    (hmn : ∀ b, fro.MB b → fro.new b) (hmb2 : ∀ b i o, fro.MB b → get s.T i = some o → blk (σ i) = some b → has gb i = true)
    (hgb : ∀ i o, has gb i = true → get so.T i = some o → ∃ o', get s.T i = some o' ∧ okind o' = okind o ∧ σo i = σ i)
    (hgs : ∀ i o, has gb i = true → get s.T i = some o → ∃ o', get so.T i = some o')
    (hfl : ∀ id o, get so.T id = some o → oFlag o → ha = true) (hFA : ha = true → ∀ b, fro.FA b → Foot frD σ s.T w al b ∨ fro.MB b) (hadd : addObjs al gb b0 so.T s = some s') :
    ∃ σ2, RelS fr σ2 s' a w' ∧ (∀ c u, (cFlag c = true → ha = true) → CR fro σo so.T w' c u → CR fr σ2 s'.T w' (fixC al gb b0 c) u) ∧ ∀ id off u, VR fro σo so.T w' (.pt id off) u → VR fr σ2 s'.T w' (.pt (hN gb b0 id) off) u := by
  obtain ⟨e1, e2, e3, e4, e5⟩ := addObjs_spec hadd (fun i hi hs => by
    cases ho : get so.T i with
    | none => rw [ho] at hs; cases hs
    | some o =>
      obtain ⟨o', h, _⟩ := hgb i o hi ho
      exact ⟨o', h⟩)
  let σ2 : Nat → Value := fun k => if (get s.T k).isSome = true then σ k else σo (k - b0)
  have hσold : ∀ k o, get s.T k = some o → σ2 k = σ k := fun k o h => by simp only [σ2, h, Option.isSome_some, if_true]
  have hσnew : ∀ id o, get so.T id = some o → σ2 (hN gb b0 id) = σo id := fun id o ho => by
    cases hg : has gb id with
    | true =>
      obtain ⟨o', h, _, he⟩ := hgb id o hg ho
      rw [hN_gb hg, hσold id o' h, he]
    | false =>
      have := e5 id o ho hg
      rw [hN_new hg]
      simp only [σ2, this, Option.isSome_none, Bool.false_eq_true, if_false, Nat.add_sub_cancel_left]
  have hsize : w.heap.size ≤ w'.heap.size := by have := Ro.kept.size; rwa [hw] at this
  have hsame : ∀ b, b < w.heap.size → ¬ fro.MB b → w'.heap[b]? = w.heap[b]? := fun b hb hm => by
    have := Ro.kept.block b (by rw [hw]; exact hb) hm
    rwa [hw] at this
  have honew : ∀ b, fro.new b → w.heap.size ≤ b ∨ fro.MB b := fun b hb => by have := Ro.kept.nmb b hb; rwa [hw] at this
  have hnewfr : ∀ b, fro.new b → fr.new b := fun b hb => (honew b hb).elim (fun h => hL.new b (R.kept.fresh b h)) (fun h => (hmb b h).1)
  -- whose an object is
  have cases2 : ∀ k o', get s'.T k = some o' → (get s.T k = some o' ∧ has gb k = false ∧ σ2 k = σ k) ∨ ∃ id o, get so.T id = some o ∧ k = hN gb b0 id ∧ o' = fixO al gb b0 o ∧ σ2 k = σo id := fun k o' hk => by
    rcases e2 k o' hk with ⟨h1, h2⟩ | ⟨h1, o, h2, h3⟩ | ⟨id, o, h1, h2, h3, h4, _⟩
    · refine .inl ⟨h1, ?_, hσold k o' h1⟩
      cases hg : has gb k with
      | false => rfl
      | true =>
        obtain ⟨o2, ho2⟩ := hgs k o' hg h1
        exact absurd ⟨hg, by rw [ho2]; rfl⟩ h2
    · exact .inr ⟨k, o, h2, (hN_gb h1).symm, h3, by have := hσnew k o h2; rwa [hN_gb h1] at this⟩
    · exact .inr ⟨id, o, h2, by rw [hN_new h1]; exact h3, h4, by have := hσnew id o h2; rw [hN_new h1, ← h3] at this; exact this⟩
  have hold : ∀ k o b, get s.T k = some o → has gb k = false → blk (σ k) = some b → b < w.heap.size ∧ ¬ fro.MB b := fun k o b hk hg hb => ⟨((R.objs k o hk).lt b hb).2, fun hm => by rw [hmb2 b k o hm hk hb] at hg; cases hg⟩
  have hso : ∀ id o b, get so.T id = some o → blk (σo id) = some b → (w.heap.size ≤ b ∨ fro.MB b) ∧ b < w'.heap.size := fun id o b ho hb => ⟨honew b ((Ro.objs id o ho).lt b hb).1, ((Ro.objs id o ho).lt b hb).2⟩
  have hown : ∀ b, Own σ2 s'.T b → (∃ k o, get s.T k = some o ∧ has gb k = false ∧ blk (σ k) = some b) ∨ ∃ id o, get so.T id = some o ∧ blk (σo id) = some b := by
    rintro b ⟨k, o', hk, hb⟩
    rcases cases2 k o' hk with ⟨h1, h2, h3⟩ | ⟨id, o, h1, _, _, h3⟩
    · rw [h3] at hb; exact .inl ⟨k, o', h1, h2, hb⟩
    · rw [h3] at hb; exact .inr ⟨id, o, h1, hb⟩
  have foot1 : ∀ al' b, Foot frD σ s.T w al' b → Foot fr σ2 s'.T w' al' b ∧ w'.heap[b]? = w.heap[b]? := fun al' b hf => by
    have hnm : ¬ fro.MB b := fun hm => by
      rcases (hmb b hm).2.2 with ⟨i, o, _, ho, hb⟩ | ⟨h1, h2⟩
      · exact hf.2.1 ⟨i, o, ho, hb⟩
      · rcases hf.2.2 with h | h
        · exact h1 h
        · exact h2 h.2
    refine ⟨⟨Nat.lt_of_lt_of_le hf.1 hsize, fun ho => ?_, hf.2.2.imp (hL.new b) (fun h => ⟨h.1, hL.fa b h.2⟩)⟩, hsame b hf.1 hnm⟩
    rcases hown b ho with ⟨k, o, h1, _, h2⟩ | ⟨id, o, h1, h2⟩
    · exact hf.2.1 ⟨k, o, h1, h2⟩
    · rcases (hso id o b h1 h2).1 with h | h
      · have := hf.1; omega
      · exact hnm h
  have foot2 : ∀ a0 b, (a0 = true → ha = true) → Foot fro σo so.T w' a0 b → Foot fr σ2 s'.T w' (a0 && al) b := fun a0 b hha hf => by
    have third : fro.new b ∨ (a0 = true ∧ fro.FA b) := hf.2.2
    have hcase : fro.new b ∨ (a0 = true ∧ Foot frD σ s.T w al b) := by
      rcases third with h | ⟨h1, h2⟩
      · exact .inl h
      · rcases hFA (hha h1) b h2 with h | h
        · exact .inr ⟨h1, h⟩
        · exact .inl (hmn b h)
    refine ⟨hf.1, fun ho => ?_, ?_⟩
    · rcases hown b ho with ⟨k, o, h1, h2, h3⟩ | h3
      · obtain ⟨p1, p2⟩ := hold k o b h1 h2 h3
        rcases hcase with h | ⟨_, h⟩
        · rcases honew b h with h | h
          · omega
          · exact p2 h
        · exact h.2.1 ⟨k, o, h1, h3⟩
      · exact hf.2.1 h3
    · rcases hcase with h | ⟨h0, h⟩
      · exact .inl (hnewfr b h)
      · rcases h.2.2 with h | ⟨h1, h2⟩
        · exact .inl (hL.new b h)
        · exact .inr ⟨by rw [h0, h1]; rfl, hL.fa b h2⟩
  have kindF : ∀ o, okind (fixO al gb b0 o) = okind o := fun o => by cases o <;> rfl
  have crF : ∀ c u, (cFlag c = true → ha = true) → CR fro σo so.T w' c u → CR fr σ2 s'.T w' (fixC al gb b0 c) u := fun c u hc h => by
    cases c with
    | int k n => exact h
    | bool b => exact h
    | str b => exact h
    | nil => exact h
    | undef => exact h
    | sl a0 t xs => exact KF.imp (fun b hb => ⟨foot2 a0 b hc hb, rfl⟩) (.sl t) xs [u] h
    | own id =>
      obtain ⟨rfl, o, ho⟩ := h
      exact ⟨(hσnew id o ho).symm, _, e3 id o ho⟩
    | view id lo len =>
      obtain ⟨o, A, n, cap, A', c', ho, h1, h2, h3, h4, h5, h6⟩ := h
      exact ⟨_, A, n, cap, A', c', e3 id o ho, by rw [hσnew id o ho]; exact h1, h2, h3, h4, h5, by rw [okind_size (kindF o)]; exact h6⟩
  have crsF : ∀ (cs : List C) (us : List Value), (∀ c ∈ cs, cFlag c = true → ha = true) → CRs fro σo so.T w' cs us → CRs fr σ2 s'.T w' (cs.map (fixC al gb b0)) us := fun cs => by
    induction cs with
    | nil =>
      intro us _ h
      cases us with
      | nil => trivial
      | cons _ _ => exact h.elim
    | cons c cs ih =>
      intro us hc h
      cases us with
      | nil => exact h.elim
      | cons u us => exact ⟨crF c u (hc c List.mem_cons_self) h.1, ih us (fun c hm => hc c (List.mem_cons_of_mem _ hm)) h.2⟩
  have keep : ∀ id o, get s.T id = some o → ∃ o', get s'.T id = some o' ∧ σ2 id = σ id ∧ okind o' = okind o := fun id o ho => by
    rcases e4 id o ho with ⟨h1, h2⟩ | h1
    · cases hs : get so.T id with
      | none => rw [hs] at h2; cases h2
      | some o2 =>
        obtain ⟨o3, h3, h4, _⟩ := hgb id o2 h1 hs
        rw [ho] at h3
        cases h3
        have := e3 id o2 hs
        rw [hN_gb h1] at this
        exact ⟨_, this, hσold id o ho, (kindF o2).trans h4.symm⟩
    · exact ⟨o, h1, hσold id o ho, rfl⟩
  have hm : Mv frD fr σ s.T w σ2 s'.T w' id (fun _ => true) id := .plain foot1 keep
  refine ⟨σ2, ⟨⟨Ro.kept.os.trans (by rw [hw]; exact R.kept.os.trans (by rw [hL.w0])), Ro.kept.tape.trans (by rw [hw]; exact R.kept.tape.trans (by rw [hL.w0])), Ro.kept.output.trans (by rw [hw]; exact R.kept.output.trans (by rw [hL.w0])), Nat.le_trans (by rw [← hL.w0]; exact R.kept.size) hsize, fun k hk hn => ?_, fun k hk => hL.new k (R.kept.fresh k (Nat.le_trans hsize hk)), hnmb⟩, hfrfa, ?_, ?_, fun i v hi => ?_, by rw [R.tmps, hL.n], by rw [← hL.n]; exact R.small, R.defers⟩, crF, fun id off u h => ?_⟩
  · have hkw : k < w.heap.size := Nat.lt_of_lt_of_le hk (by rw [← hL.w0]; exact R.kept.size)
    rw [hsame k hkw (fun hmk => ?_), ← hL.w0]
    · exact R.kept.block k (by rw [hL.w0]; exact hk) (by rw [hL.mb]; exact hn)
    · rcases hnmb k (hmb k hmk).1 with h | h
      · omega
      · exact hn h
  · intro i o1 j o2 hi hj hij b hbi hbj
    rcases cases2 i o1 hi with ⟨h1, h2, h3⟩ | ⟨id, o, h1, h2, _, h3⟩ <;> rcases cases2 j o2 hj with ⟨k1, k2, k3⟩ | ⟨jd, p, k1, k2, _, k3⟩
    · rw [h3] at hbi
      rw [k3] at hbj
      exact R.dist i o1 j o2 h1 k1 hij b hbi hbj
    · rw [h3] at hbi
      rw [k3] at hbj
      obtain ⟨p1, p2⟩ := hold i o1 b h1 h2 hbi
      rcases (hso jd p b k1 hbj).1 with h | h
      · omega
      · exact p2 h
    · rw [h3] at hbi
      rw [k3] at hbj
      obtain ⟨p1, p2⟩ := hold j o2 b k1 k2 hbj
      rcases (hso id o b h1 hbi).1 with h | h
      · omega
      · exact p2 h
    · rw [h3] at hbi
      rw [k3] at hbj
      exact Ro.dist id o jd p h1 k1 (fun e => hij (by rw [h2, k2, e])) b hbi hbj
  · intro i o1 hi
    rcases cases2 i o1 hi with ⟨h1, h2, h3⟩ | ⟨id, o, h1, h2, h4, h3⟩
    · have := hm.or2 (R.objs i o1 h1) (j := i) h3 (fun b _ h => hL.new b h) (fun b hb => by
        obtain ⟨p1, p2⟩ := hold i o1 b h1 h2 hb
        exact hsame b p1 p2)
      rwa [mapO_id] at this
    · subst h4
      have hR := Ro.objs id o h1
      have hf := hfl id o h1
      cases o with
      | row e a0 t xs =>
        obtain ⟨inner, how, hnw, hk⟩ := hR
        exact ⟨inner, by rw [h3]; exact how, fun b hb => by rw [h3] at hb; exact hnewfr b (hnw b hb), fun p x hx => KF.imp (fun b hb => ⟨foot2 a0 b hf hb, rfl⟩) t x _ (hk p x hx)⟩
      | win _ _ _ => exact hR.elim
      | box ty cs =>
        obtain ⟨g, arr, q1, q2, q3, q4⟩ := hR
        exact ⟨g, arr, by rw [h3]; exact q1, hnewfr g q2, q3, crsF cs _ (fun c hc hcf => hf ⟨c, hc, hcf⟩) q4⟩
      | arr ty n t xs =>
        obtain ⟨g, arr, q1, q2, q3, q4⟩ := hR
        exact ⟨g, arr, by rw [h3]; exact q1, hnewfr g q2, q3, q4⟩
  · have hgh : fr.val a i = frD.val a i := by unfold Fr.val; rw [hL.gh]
    rw [hgh]
    have := hm.vr (R.env i v (by rw [← e1]; exact hi))
    rwa [mapV_id] at this
  · obtain ⟨o, a0, ho, h1, h2, h3⟩ := h
    exact ⟨_, a0, e3 id o ho, by rw [hσnew id o ho]; exact h1, h2, h3⟩
end
end Go.Proofs.Ytfmfgomijjibgaa.Abs
end

section
namespace Go.Proofs.Ytfmfgomijjibgaa.Abs
open Go.RowKit

section
variable {fr : Fr} {σ : Nat → Value} {s : St} {a : Act} {w : World}

/-! ## Flags of what is unpacked -/
theorem unpackC_flag {R : Type} : ∀ {x : Sh} {z : Sh.cons R x}, cFlag (unpackC x z).1 = shAl x
  | .int _, _ => rfl
  | .bool, _ => rfl
  | .str, _ => rfl
  | .sl _ _, _ => rfl
  | .nil, _ => rfl
  | .own _, _ => rfl
  | .view _, _ => rfl
theorem unpackCs_flag {R : Type} : ∀ {xs : List Sh} {z : Sh.conses R xs} {c : C}, c ∈ (unpackCs xs z).1 → cFlag c = true → xs.any shAl = true
  | [], _, _, h, _ => by cases h
  | x :: xs, z, c, h, hc => by
    simp only [unpackCs] at h
    rw [List.any_cons, Bool.or_eq_true]
    cases h with
    | head => exact .inl (unpackC_flag.symm.trans hc)
    | tail _ h => exact .inr (unpackCs_flag h hc)
theorem flat_flag {al : Bool} : ∀ (t : Ty) (x : t.den) (c : C), c ∈ flat al t x → cFlag c = true → al = true
  | .int _, _, c, h, hc => by simp [flat] at h; subst h; cases hc
  | .bool, _, c, h, hc => by simp [flat] at h; subst h; cases hc
  | .str, _, c, h, hc => by simp [flat] at h; subst h; cases hc
  | .unit, _, c, h, _ => by simp [flat] at h
  | .sl _, _, c, h, hc => by simp [flat] at h; subst h; exact hc
  | .arr n t, xs, c, h, hc => by
    simp only [flat, List.mem_flatMap] at h
    obtain ⟨i, _, h⟩ := h
    exact flat_flag t _ c h hc
  | .pair a b, x, c, h, hc => by
    simp only [flat, List.mem_append] at h
    rcases h with h | h
    · exact flat_flag a x.1 c h hc
    · exact flat_flag b x.2 c h hc
theorem unpackV_flag {R : Type} : ∀ {x : VSh} {z : VSh.cons R x} {c : C}, c ∈ argCells [(unpackV x z).1] → cFlag c = true → vAl x = true
  | .c x, z, c, h, hc => by
    simp only [unpackV, argCells, List.mem_singleton] at h
    subst h
    exact unpackC_flag.symm.trans hc
  | .agg xs, z, c, h, hc => by
    simp only [unpackV, argCells, List.append_nil] at h
    exact unpackCs_flag h hc
  | .av _ _, _, _, h, _ => by simp [unpackV, argCells] at h
  | .pt _ _, _, _, h, _ => by simp [unpackV, argCells] at h
  | .tv al t, z, c, h, hc => by
    simp only [unpackV, argCells, List.append_nil] at h
    exact flat_flag t z.1 c h hc
theorem unpackO_flag {R : Type} : ∀ {x : OSh} {z : OSh.cons R x}, oFlag (unpackO x z).1 → oAl x = true
  | .row _ _ _, _, h => h
  | .box _ xs, z, h => by
    obtain ⟨c, h1, h2⟩ := h
    exact unpackCs_flag h1 h2
  | .arr _ _ _, _, h => h.elim
  | .tb _ al t, z, h => by
    obtain ⟨c, h1, h2⟩ := h
    exact flat_flag t z.1 c h1 h2
theorem unpackSlots_flag {R : Type} : ∀ {xs : List (Nat × VSh)} {z : slotsX R xs} {i : Nat} {v : V} {c : C}, (i, v) ∈ (unpackSlots xs z).1 → c ∈ argCells [v] → cFlag c = true → xs.any (fun x => vAl x.2) = true
  | [], _, _, _, _, h, _, _ => by cases h
  | (j, x) :: xs, z, i, v, c, h, hc, hf => by
    simp only [unpackSlots] at h
    rw [List.any_cons, Bool.or_eq_true]
    cases h with
    | head => exact .inl (unpackV_flag hc hf)
    | tail _ h => exact .inr (unpackSlots_flag h hc hf)
theorem unpackObjs_flag : ∀ {xs : List (Nat × OSh)} {z : objsX xs} {i : Nat} {o : Obj}, get (unpackObjs xs z) i = some o → oFlag o → xs.any (fun x => oAl x.2) = true
  | [], _, _, _, h, _ => by cases h
  | (j, x) :: xs, z, i, o, h, hf => by
    simp only [unpackObjs, get_cons] at h
    rw [List.any_cons, Bool.or_eq_true]
    split at h
    · cases h
      exact .inl (unpackO_flag hf)
    · exact .inr (unpackObjs_flag h hf)

/-! ## The results as one value -/
noncomputable def ghostEB : Env → Bool
  | [] => true
  | (i, _) :: r => Nat.ble 1000000 i && ghostEB r
noncomputable def numE : Nat → Env → Bool
  | _, [] => true
  | n, (i, x) :: r => bif Nat.blt i 1000000 then Nat.beq i n && numE (n + 1) r else ghostEB ((i, x) :: r)
noncomputable def cntE : Env → Nat
  | [] => 0
  | (i, _) :: r => bif Nat.blt i 1000000 then cntE r + 1 else cntE r
theorem ghostE_of {R : Type} : ∀ {xs : List (Nat × VSh)} {z : slotsX R xs} {n : Nat}, 1000000 ≤ n → ghostB n xs = true → ghostEB (unpackSlots xs z).1 = true
  | [], _, _, _, _ => rfl
  | (i, x) :: xs, z, n, hn, h => by
    simp only [ghostB, Bool.and_eq_true] at h
    simp only [unpackSlots, ghostEB, Bool.and_eq_true]
    have := Nat.eq_of_beq_eq_true h.1
    exact ⟨Nat.ble_eq.mpr (by omega), ghostE_of (Nat.le_succ_of_le hn) h.2⟩
theorem ghost_get : ∀ {xs : List (Nat × VSh)} {n : Nat}, ghostB n xs = true → ∀ k x, (k, x) ∈ xs → n ≤ k ∧ get xs k = some x
  | [], _, _, _, _, hm => by cases hm
  | (i, y) :: xs, n, h, k, x, hm => by
    simp only [ghostB, Bool.and_eq_true] at h
    have hi := Nat.eq_of_beq_eq_true h.1
    rw [get_cons]
    cases hm with
    | head => exact ⟨by omega, by rw [if_pos rfl]⟩
    | tail _ hm =>
      obtain ⟨h1, h2⟩ := ghost_get h.2 k x hm
      exact ⟨by omega, by rw [if_neg (by omega)]; exact h2⟩
theorem numB_get : ∀ {xs : List (Nat × VSh)} {n : Nat}, numB n xs = true → ∀ k x, (k, x) ∈ xs → 1000000 ≤ k → get xs k = some x
  | [], _, _, _, _, hm, _ => by cases hm
  | (i, y) :: xs, n, h, k, x, hm, hk => by
    simp only [numB] at h
    cases hb : Nat.blt i 1000000 with
    | true =>
      rw [hb] at h
      simp only [cond_true, Bool.and_eq_true] at h
      have := Nat.blt_eq.mp hb
      rw [get_cons]
      cases hm with
      | head => rw [if_pos rfl]
      | tail _ hm => rw [if_neg (by omega)]; exact numB_get h.2 k x hm hk
    | false =>
      rw [hb] at h
      exact (ghost_get h k x hm).2
theorem numE_of {R : Type} : ∀ {xs : List (Nat × VSh)} {z : slotsX R xs} {n : Nat}, numB n xs = true → numE n (unpackSlots xs z).1 = true
  | [], _, _, _ => rfl
  | (i, x) :: xs, z, n, h => by
    simp only [numB] at h
    simp only [unpackSlots, numE]
    cases hb : Nat.blt i 1000000 with
    | true =>
      rw [hb] at h
      simp only [cond_true, Bool.and_eq_true] at h ⊢
      exact ⟨h.1, numE_of h.2⟩
    | false =>
      rw [hb] at h
      exact ghostE_of (xs := (i, x) :: xs) (z := z) (Nat.le_refl _) h
theorem cntE_of {R : Type} : ∀ {xs : List (Nat × VSh)} {z : slotsX R xs}, cntE (unpackSlots xs z).1 = cntB xs
  | [], _ => rfl
  | (i, x) :: xs, z => by
    simp only [unpackSlots, cntE, cntB]
    rw [cntE_of]
theorem ghost_not {e : Env} (h : ghostEB e = true) : ∀ i v, (i, v) ∈ e → 1000000 ≤ i := by
  induction e with
  | nil => intro i v hm; cases hm
  | cons p r ih =>
    obtain ⟨j, x⟩ := p
    simp only [ghostEB, Bool.and_eq_true] at h
    intro i v hm
    cases hm with
    | head => exact Nat.le_of_ble_eq_true h.1
    | tail _ hm => exact ih h.2 i v hm
theorem cnt_ghost : ∀ {e : Env}, ghostEB e = true → cntE e = 0
  | [], _ => rfl
  | (j, x) :: r, h => by
    simp only [ghostEB, Bool.and_eq_true] at h
    have : Nat.blt j 1000000 = false := by
      rw [← Bool.not_eq_true, Nat.blt_eq]
      have := Nat.le_of_ble_eq_true h.1
      omega
    simp only [cntE, this, cond_false]
    exact cnt_ghost h.2
theorem num_ge : ∀ {e : Env} {n : Nat}, numE n e = true → ∀ i v, (i, v) ∈ e → n ≤ i ∨ 1000000 ≤ i
  | [], _, _, _, _, hm => by cases hm
  | (j, x) :: r, n, h, i, v, hm => by
    simp only [numE] at h
    cases hb : Nat.blt j 1000000 with
    | true =>
      rw [hb] at h
      simp only [cond_true, Bool.and_eq_true] at h
      have hj := Nat.eq_of_beq_eq_true h.1
      cases hm with
      | head => exact .inl (by omega)
      | tail _ hm => exact (num_ge h.2 i v hm).imp (by omega) (fun h => h)
    | false =>
      rw [hb] at h
      exact .inr (ghost_not h i v hm)
theorem num_get : ∀ {e : Env} {n : Nat}, numE n e = true → ∀ i v, (i, v) ∈ e → i < 1000000 → get e i = some v
  | [], _, _, _, _, hm, _ => by cases hm
  | (j, x) :: r, n, h, i, v, hm, hi => by
    have h0 := h
    simp only [numE] at h
    cases hb : Nat.blt j 1000000 with
    | true =>
      rw [hb] at h
      simp only [cond_true, Bool.and_eq_true] at h
      have hj := Nat.eq_of_beq_eq_true h.1
      rw [get_cons]
      cases hm with
      | head => rw [if_pos rfl]
      | tail _ hm =>
        have := num_ge h.2 i v hm
        rw [if_neg (by omega)]
        exact num_get h.2 i v hm hi
    | false =>
      rw [hb] at h
      have := ghost_not h i v hm
      omega
theorem oneE_ghost : ∀ {e : Env}, oneE e = ghostEB e
  | [] => rfl
  | (i, _) :: r => by simp only [oneE, ghostEB, oneE_ghost (e := r)]

theorem fixV_spec {fro : Fr} {σo σ2 : Nat → Value} {To T2 : Tab} {w' : World} {gb : List Nat} {b0 : Nat} {ha al : Bool} (crF : ∀ c u, (cFlag c = true → ha = true) → CR fro σo To w' c u → CR fr σ2 T2 w' (fixC al gb b0 c) u) (ptF : ∀ id off u, VR fro σo To w' (.pt id off) u → VR fr σ2 T2 w' (.pt (hN gb b0 id) off) u)
    {v : V} {u : Value} (hf : ∀ c ∈ argCells [v], cFlag c = true → ha = true) (h : VR fro σo To w' v u) : VR fr σ2 T2 w' (fixV al gb b0 v) u := by
  have crsF : ∀ (cs : List C) (us : List Value), (∀ c ∈ cs, cFlag c = true → ha = true) → CRs fro σo To w' cs us → CRs fr σ2 T2 w' (cs.map (fixC al gb b0)) us := fun cs => by
    induction cs with
    | nil =>
      intro us _ h
      cases us with
      | nil => trivial
      | cons _ _ => exact h.elim
    | cons c cs ih =>
      intro us hc h
      cases us with
      | nil => exact h.elim
      | cons u us => exact ⟨crF c u (hc c List.mem_cons_self) h.1, ih us (fun c hm => hc c (List.mem_cons_of_mem _ hm)) h.2⟩
  cases v with
  | c x => exact crF x u (hf x (by simp [argCells])) h
  | agg cs =>
    obtain ⟨arr, rfl, hA⟩ := h
    exact ⟨arr, rfl, crsF cs _ (fun c hc => hf c (by simpa [argCells] using hc)) hA⟩
  | av n t xs => exact h
  | pt id off => exact ptF id off u h
  | _ => trivial
theorem partsE_spec {fro : Fr} {σo σ2 : Nat → Value} {To T2 : Tab} {w' : World} {gb : List Nat} {b0 : Nat} {ha al : Bool} (crF : ∀ c u, (cFlag c = true → ha = true) → CR fro σo To w' c u → CR fr σ2 T2 w' (fixC al gb b0 c) u) (ptF : ∀ id off u, VR fro σo To w' (.pt id off) u → VR fr σ2 T2 w' (.pt (hN gb b0 id) off) u) :
    ∀ (e : Env) (n : Nat) (us : List Value) (l : List (Bool × List C)), numE n e = true → partsE al gb b0 e = some l → us.length = cntE e → (∀ i v, (i, v) ∈ e → ∀ c ∈ argCells [v], cFlag c = true → ha = true) → (∀ i v, (i, v) ∈ e → i < 1000000 → VR fro σo To w' v (us.getD (i - n) Go.undef)) → PRs fr σ2 T2 w' l us
  | [], n, us, l, _, h, hl, _, _ => by
    cases h
    cases us with
    | nil => trivial
    | cons _ _ => simp [cntE] at hl
  | (i, v) :: e, n, us, l, hn, h, hl, hf, hV => by
    have hn0 := hn
    simp only [numE] at hn
    simp only [partsE] at h
    simp only [cntE] at hl
    cases hb : Nat.blt i 1000000 with
    | false =>
      rw [hb] at hn h hl
      simp only [cond_false] at hn h hl
      have hge : ghostEB e = true := by
        simp only [ghostEB, Bool.and_eq_true] at hn
        exact hn.2
      have hne : numE n e = true := by
        cases e with
        | nil => rfl
        | cons p r =>
          obtain ⟨j, y⟩ := p
          have hg := hge
          simp only [ghostEB, Bool.and_eq_true] at hg
          have : Nat.blt j 1000000 = false := by
            rw [← Bool.not_eq_true, Nat.blt_eq]
            have := Nat.le_of_ble_eq_true hg.1
            omega
          simp only [numE, this, cond_false]
          exact hge
      exact partsE_spec crF ptF e n us l hne h hl (fun j y hm => hf j y (List.mem_cons_of_mem _ hm)) (fun j y hm => hV j y (List.mem_cons_of_mem _ hm))
    | true =>
      rw [hb] at hn h hl
      simp only [cond_true, Bool.and_eq_true] at hn h hl
      have hi := Nat.eq_of_beq_eq_true hn.1
      subst hi
      cases us with
      | nil => simp at hl
      | cons u us =>
        have hlt := Nat.blt_eq.mp hb
        have hv0 := hV i v List.mem_cons_self hlt
        rw [Nat.sub_self] at hv0
        have hv0 : VR fro σo To w' v u := hv0
        have hfix := fixV_spec (fr := fr) (σ2 := σ2) (T2 := T2) (b0 := b0) (gb := gb) (al := al) crF ptF (hf i v List.mem_cons_self) hv0
        have rest : ∀ l', partsE al gb b0 e = some l' → PRs fr σ2 T2 w' l' us := fun l' hl' => partsE_spec crF ptF e (i + 1) us l' hn.2 hl' (by simpa using hl) (fun j y hm => hf j y (List.mem_cons_of_mem _ hm)) (fun j y hm hj => by
          have := hV j y (List.mem_cons_of_mem _ hm) hj
          have hge := num_ge hn.2 j y hm
          rw [show j - i = (j - (i + 1)) + 1 by omega] at this
          exact this)
        split at h
        · split at h
          case h_2 => cases h
          rename_i l' hl'
          cases h
          exact ⟨⟨_, rfl, hfix⟩, rest l' hl'⟩
        · split at h
          case h_2 => cases h
          rename_i l' hl'
          cases h
          obtain ⟨arr, hA, hB⟩ := hfix
          exact ⟨⟨arr, hA, hB⟩, rest l' hl'⟩
        · cases h
theorem PRs.len {T : Tab} {w' : World} : ∀ {rs : List (Bool × List C)} {us : List Value}, PRs fr σ T w' rs us → rs.length = us.length
  | [], [], _ => rfl
  | [], _ :: _, h => h.elim
  | (_, _) :: _, [], h => h.elim
  | (_, _) :: _, _ :: _, h => congrArg (· + 1) (PRs.len h.2)
theorem resE_spec {fro : Fr} {σo σ2 : Nat → Value} {To T2 : Tab} {w' : World} {gb : List Nat} {b0 : Nat} {ha al : Bool} (crF : ∀ c u, (cFlag c = true → ha = true) → CR fro σo To w' c u → CR fr σ2 T2 w' (fixC al gb b0 c) u) (ptF : ∀ id off u, VR fro σo To w' (.pt id off) u → VR fr σ2 T2 w' (.pt (hN gb b0 id) off) u)
    {e : Env} {us : List Value} {v : V} (hn : numE 0 e = true) (hl : us.length = cntE e) (hf : ∀ i v, (i, v) ∈ e → ∀ c ∈ argCells [v], cFlag c = true → ha = true) (hV : ∀ i v, (i, v) ∈ e → i < 1000000 → VR fro σo To w' v (us.getD i Go.undef)) (h : resE al gb b0 e = some v) : VR fr σ2 T2 w' v (retV us) := by
  have tup : ∀ l, partsE al gb b0 e = some l → us.length ≠ 1 → VR fr σ2 T2 w' (.tup l) (retV us) := fun l hp h1 => by
    have := partsE_spec (fr := fr) (σ2 := σ2) (T2 := T2) crF ptF e 0 us l hn hp hl hf (fun i v hm hi => by rw [Nat.sub_zero]; exact hV i v hm hi)
    have e1 : retV us = .tuple us.toArray := by
      cases us with
      | nil => rfl
      | cons u us =>
        cases us with
        | cons _ _ => rfl
        | nil => simp at h1
    exact ⟨_, e1, this⟩
  unfold resE at h
  split at h
  · rename_i v0 r
    rcases ble_of h with ⟨hg, h'⟩ | ⟨hg, h'⟩
    · cases h'
      rw [oneE_ghost] at hg
      have hc : us.length = 1 := by
        rw [hl]
        simp only [cntE, cnt_ghost hg]
        rfl
      cases us with
      | nil => simp at hc
      | cons u us =>
        cases us with
        | cons _ _ => simp at hc
        | nil =>
          have := hV 0 v0 List.mem_cons_self (by omega)
          exact fixV_spec crF ptF (hf 0 v0 List.mem_cons_self) this
    · split at h'
      case h_2 => cases h'
      rename_i l hp
      cases h'
      refine tup l hp ?_
      rw [oneE_ghost] at hg
      rw [hl]
      have : cntE r ≠ 0 := by
        have hn' := hn
        simp only [numE] at hn'
        have hb : Nat.blt 0 1000000 = true := rfl
        rw [hb] at hn'
        simp only [cond_true, Bool.and_eq_true] at hn'
        cases r with
        | nil => simp [ghostEB] at hg
        | cons p r =>
          obtain ⟨j, y⟩ := p
          have h2 := hn'.2
          simp only [numE] at h2
          cases hbj : Nat.blt j 1000000 with
          | true => simp [cntE, hbj]
          | false =>
            rw [hbj] at h2
            rw [show ghostEB ((j, y) :: r) = true from h2] at hg
            cases hg
      simp only [cntE]
      have hb : Nat.blt 0 1000000 = true := rfl
      rw [hb]
      simp only [cond_true]
      omega
  · rename_i hne
    split at h
    case h_2 => cases h
    rename_i l hp
    cases h
    refine tup l hp ?_
    rw [hl]
    cases e with
    | nil => simp [cntE]
    | cons p r =>
      obtain ⟨j, y⟩ := p
      have h2 := hn
      simp only [numE] at h2
      cases hbj : Nat.blt j 1000000 with
      | true =>
        rw [hbj] at h2
        simp only [cond_true, Bool.and_eq_true] at h2
        have := Nat.eq_of_beq_eq_true h2.1
        subst this
        exact absurd rfl (hne y r)
      | false =>
        rw [hbj] at h2
        have h2 : ghostEB ((j, y) :: r) = true := h2
        rw [cnt_ghost h2]
        omega
end

section
variable {ρ : Type} {G : Ctx} {fr : Fr} {σ : Nat → Value} {s : St} {a : Act} {w : World} {o : Oper} {K : V → St → Option ρ} {r : ρ}
theorem argE_get : ∀ {vs : List V} {n i : Nat} {v : V}, get (argE n vs) i = some v → n ≤ i ∧ vs[i - n]? = some v
  | [], _, _, _, h => by cases h
  | x :: vs, n, i, v, h => by
    simp only [argE, get_cons] at h
    split at h
    · rename_i e
      cases h
      subst e
      exact ⟨Nat.le_refl _, by simp⟩
    · rename_i e
      obtain ⟨h1, h2⟩ := argE_get h
      refine ⟨by omega, ?_⟩
      rw [show i - n = (i - (n + 1)) + 1 by omega]
      simpa using h2
theorem argE_of : ∀ {vs : List V} {n i : Nat} {v : V}, vs[i]? = some v → get (argE n vs) (n + i) = some v
  | [], _, _, _, h => by simp at h
  | x :: vs, n, 0, v, h => by
    simp at h
    subst h
    simp [argE, get_cons]
  | x :: vs, n, i + 1, v, h => by
    simp only [argE, get_cons]
    rw [if_neg (by omega), show n + (i + 1) = (n + 1) + i by omega]
    exact argE_of (by simpa using h)
theorem argCells_mem : ∀ {vs : List V} {v : V} {i : Nat}, vs[i]? = some v → ∀ c ∈ argCells [v], c ∈ argCells vs
  | [], _, _, h, _, _ => by simp at h
  | x :: vs, v, i, h, c, hc => by
    have step : ∀ y, y ∈ argCells vs → y ∈ argCells (x :: vs) := fun y hy => by
      cases x <;> simp only [argCells, List.mem_cons, List.mem_append] <;> first | exact .inr hy | exact hy
    cases i with
    | zero =>
      simp at h
      subst h
      cases x <;> simp_all [argCells]
    | succ i => exact step c (argCells_mem (by simpa using h) c hc)

/-- What a call's result is worth, in the frame of the call that was made. -/
theorem call_wp {c : Call} (ho : o.op = .call c) {f : FuncId} (hc : c.callee = .value (.func f)) {F : Fn} (hF : CallOk fr.P f F) {x : F.din.X} {res : F.dout.X} (hrun : F.run x = some res) {fr' : Fr} {σ' : Nat → Value} (hP : fr'.P = fr.P) (hw : fr'.w0 = w) (hn : fr'.n = (c.args.toList.map a.eval).length) (hcnt : (c.args.toList.map a.eval).length = cntB F.din.slots)
    (R : RelS fr' σ' (unpack F.din x) ⟨(c.args.toList.map a.eval).toArray, []⟩ w) {next : Act → World → Prop} {Q : Exit → Act → World → Prop}
    (hfin : ∀ w' σo us', us'.length = cntB F.dout.slots → RelS { fr' with n := us'.length } σo (unpack F.dout res) ⟨us'.toArray, []⟩ w' → next (a.put o.dst (retV us')) w') : o.wp fr.P a w next Q := by
  subst hw
  have hcall := hF.2.2 x res hrun fr' σ' _ hP hn hcnt R
  have hex : execOp a.eval o = callFunc f (c.args.toList.map a.eval).toArray := by
    obtain ⟨dst, op, ty, pos, aft, gd⟩ := o
    obtain ⟨callee, args, ats⟩ := c
    simp only at ho hc
    subst ho hc
    rw [execOp_call_go]
    congr 1
    apply Array.ext'
    simp
  unfold Oper.wp
  rw [hex, hF.1]
  rw [Oper.upon_enter]
  refine Calls.mono hcall fun e w' he => ?_
  cases e with
  | returned u =>
    obtain ⟨σo, us', rfl, hl, hR⟩ := he
    exact hfin w' σo us' hl hR
  | panicked _ => exact he.elim
  | outgrown => exact he.elim

theorem goes_callR (R : RelS fr σ s a w) {c : Call} (ho : o.op = .call c) {f : FuncId} (hc : c.callee = .value (.func f)) {F : Fn} (hF : CallOk fr.P f F) {vs : List V} (hvs : evAll s c.args.toList = some vs) (hlen : vs.length ≤ 1000) (hcnt : vs.length = cntB F.din.slots) {d : Nat} (h : callR F s d vs K = some r) : Goes fr o a w K r := by
  intro next Q hnext
  unfold callR at h
  rcases ble_of h with ⟨_, h⟩ | ⟨hcl, h⟩
  · cases h
  simp only [Bool.not_eq_false'] at hcl
  split at h
  case h_1 => cases h
  rename_i e he
  split at h
  case h_1 => cases h
  rename_i x hx
  split at h
  case h_1 => cases h
  rename_i s1 hs1
  cases hrun : F.run x with
  | none => rw [hrun] at h; cases h
  | some res =>
    rw [hrun] at h
    simp only [Option.bind_some] at h
    split at h
    case h_2 => cases h
    rename_i s2 hs2
    split at h
    case h_2 => cases h
    rename_i v hv
    obtain ⟨l1, l2⟩ := evAll_spec R hvs
    let us := c.args.toList.map a.eval
    have hul : us.length = vs.length := by simp only [us, List.length_map]; exact l1.symm
    let fr' : Fr := { P := fr.P, w0 := w, FA := Reach fr σ s.T w (argCells vs), MB := fun b => ∃ id o, (get ([] : List (Nat × OSh)) id).isSome = true ∧ get s.T id = some o ∧ blk (σ id) = some b, new := fun b => w.heap.size ≤ b ∨ ∃ id o, (get ([] : List (Nat × OSh)) id).isSome = true ∧ get s.T id = some o ∧ blk (σ id) = some b, n := us.length, gh := fun _ => Go.undef }
    have hno : ∀ b, ¬ fr'.MB b := fun b ⟨id, _, h, _⟩ => by simp [get] at h
    have hR0 : RelS fr' σ ⟨e, []⟩ ⟨us.toArray, []⟩ w := callee_rel R (objs := []) (cs := argCells vs) (fr' := fr') (T' := []) rfl he rfl rfl rfl rfl rfl (by omega) (fun i v hi => by
      obtain ⟨_, hi'⟩ := argE_get hi
      rw [Nat.sub_zero] at hi'
      obtain ⟨y, hy, hV⟩ := l2 i v hi'
      refine ⟨argCells_mem hi', ?_⟩
      have hlt := (List.getElem?_eq_some_iff.1 hi').1
      have hval : fr'.val ⟨us.toArray, []⟩ i = a.eval y := by
        unfold Fr.val
        rw [if_pos (by omega)]
        have : us[i]? = some (a.eval y) := by simp only [us, List.getElem?_map, hy]; rfl
        rw [Array.getD_eq_getD_getElem?]
        simp [this]
      rw [hval]
      exact hV) (fun id h => by simp [get] at h) (fun id _ _ h => by simp [get] at h)
    have hR1 := hR0.pack hcl hx
    refine call_wp ho hc hF hrun (fr' := fr') (σ' := σ) rfl rfl rfl (hul.trans hcnt) hR1 fun w' σo us' hl' Ro => ?_
    have R1 : RelS fr σ s1 a w := by
      cases hal : hasAl F.dout with
      | true => rw [hal] at hs1; exact R.freezeAll hs1
      | false => rw [hal] at hs1; cases hs1; exact R
    obtain ⟨σ2, R2, crF, ptF⟩ := merge (ha := hasAl F.dout) (gb := []) R1 Ro rfl (.refl fr) R1.fa R1.kept.nmb (fun b hb => absurd hb (hno b)) (fun b hb => .inr hb) (fun b i o' hb => absurd hb (hno b)) (fun i o' hi => by cases hi) (fun i o' hi => by cases hi)
      (fun id o' hi hf => by
        have := unpackObjs_flag hi hf
        simp only [hasAl, this, Bool.or_true]) (fun hha b hb => by
        rw [hha] at hs1
        exact .inl (reach_frozen R hs1 (fun i hi => hi) (fun h => h) hb)) hs2
    exact hnext v s2 σ2 _ w' h R2 (resE_spec (ha := hasAl F.dout) crF ptF (numE_of hF.2.1.1) (by rw [hl']; exact (cntE_of (xs := F.dout.slots) (z := res)).symm) (fun i v hm c hc hf => by
      have := unpackSlots_flag hm hc hf
      simp only [hasAl, this, Bool.true_or]) (fun i v hm hi => by
      have := Ro.env i v (num_get (numE_of hF.2.1.1) i v hm hi)
      unfold Fr.val at this
      rw [if_pos hi] at this
      rw [Array.getD_eq_getD_getElem?] at this
      rw [List.getD_eq_getElem?_getD]
      simpa using this) hv)
end
end Go.Proofs.Ytfmfgomijjibgaa.Abs
end

section
namespace Go.Proofs.Ytfmfgomijjibgaa.Abs
open Go.RowKit

section
variable {fr : Fr} {σ : Nat → Value} {s : St} {a : Act} {w : World}
/-- Other ghosts. -/
theorem RelS.regh (R : RelS fr σ s a w) (gh : Nat → Value) {e : Env} (h : ∀ i v, get e i = some v → VR fr σ s.T w v (({ fr with gh := gh } : Fr).val a i)) : RelS { fr with gh := gh } σ ⟨e, s.T⟩ a w :=
  have m : Mv fr { fr with gh := gh } σ s.T w σ s.T w id (fun _ => true) id := .plain (fun _ _ hf => ⟨hf, rfl⟩) (fun _ o ho => ⟨o, ho, rfl, rfl⟩)
  ⟨⟨R.kept.os, R.kept.tape, R.kept.output, R.kept.size, R.kept.block, R.kept.fresh, R.kept.nmb⟩, R.fa, R.dist, fun id o ho => by
    have := m.or2 (R.objs id o ho) (j := id) rfl (fun _ _ h => h) (fun _ _ => rfl)
    rwa [mapO_id] at this, fun i v hi => by
    have := m.vr (h i v hi)
    rwa [mapV_id] at this, R.tmps, R.small, R.defers⟩
theorem VR.ungh {gh : Nat → Value} {T : Tab} {v : V} {u : Value} (h : VR { fr with gh := gh } σ T w v u) : VR fr σ T w v u := by
  have m : Mv { fr with gh := gh } fr σ T w σ T w id (fun _ => true) id := .plain (fun _ _ hf => ⟨hf, rfl⟩) (fun _ o ho => ⟨o, ho, rfl, rfl⟩)
  have := m.vr h
  rwa [mapV_id] at this
theorem freezeAll_keep : ∀ {ids : List Nat} {s s' : St}, freezeAll ids s = some s' → (∀ id, id ∉ ids → ∀ o, get s.T id = some o → ∃ o', get s'.T id = some o' ∧ okind o' = okind o) ∧ ∀ id o', get s'.T id = some o' → ∃ o, get s.T id = some o ∧ okind o' = okind o
  | [], s, s', h => by
    cases h
    exact ⟨fun _ _ o h => ⟨o, h, rfl⟩, fun _ o h => ⟨o, h, rfl⟩⟩
  | i :: ids, s, s', h => by
    simp only [Go.Proofs.Ytfmfgomijjibgaa.Abs.freezeAll] at h
    split at h
    · obtain ⟨h1, h2⟩ := freezeAll_keep h
      exact ⟨fun id hm o ho => h1 id (fun h => hm (List.mem_cons_of_mem _ h)) o ho, h2⟩
    · split at h
      case h_2 => cases h
      rename_i s1 hs
      obtain ⟨h1, h2⟩ := freezeAll_keep h
      unfold Go.Proofs.Ytfmfgomijjibgaa.Abs.freeze at hs
      split at hs
      case h_2 => cases hs
      rename_i e al t xs ho
      cases hs
      have hget : ∀ k, get (mapT (freezeC i al t xs) (del s.T i)) k = if i = k then none else (get s.T k).map (mapO (freezeC i al t xs)) := fun k => by
        rw [get_mapT, get_del]
        by_cases e : i = k <;> simp [e]
      refine ⟨fun id hm o ho => ?_, fun id o' ho' => ?_⟩
      · have hne : i ≠ id := fun e => hm (by rw [e]; exact List.mem_cons_self)
        obtain ⟨o', ho', hk⟩ := h1 id (fun h => hm (List.mem_cons_of_mem _ h)) (mapO (freezeC i al t xs) o) (by
          show get (mapT (freezeC i al t xs) (del s.T i)) id = _
          rw [hget, if_neg hne, ho]; rfl)
        exact ⟨o', ho', hk.trans (by cases o <;> rfl)⟩
      · obtain ⟨o, ho, hk⟩ := h2 id o' ho'
        have ho : get (mapT (freezeC i al t xs) (del s.T i)) id = some o := ho
        rw [hget] at ho
        split at ho
        · cases ho
        · cases h : get s.T id with
          | none => rw [h] at ho; cases ho
          | some o2 =>
            rw [h] at ho
            simp at ho
            subst ho
            exact ⟨o2, rfl, hk.trans (by cases o2 <;> rfl)⟩
theorem otherIds_mem {objs : List (Nat × OSh)} : ∀ {l : List Nat} {i : Nat}, i ∈ otherIds objs l ↔ i ∈ l ∧ get objs i = none
  | [], i => by simp [otherIds]
  | j :: l, i => by
    simp only [otherIds]
    cases h : get objs j with
    | some x =>
      simp only [otherIds_mem, List.mem_cons]
      constructor
      · rintro ⟨h1, h2⟩; exact ⟨.inr h1, h2⟩
      · rintro ⟨h1 | h1, h2⟩
        · subst h1; rw [h] at h2; cases h2
        · exact ⟨h1, h2⟩
    | none =>
      simp only [List.mem_cons, otherIds_mem]
      constructor
      · rintro (h1 | ⟨h1, h2⟩)
        · subst h1; exact ⟨.inl rfl, h⟩
        · exact ⟨.inr h1, h2⟩
      · rintro ⟨h1 | h1, h2⟩
        · exact .inl h1
        · exact .inr ⟨h1, h2⟩
theorem get_app {α : Type} : ∀ {l m : List (Nat × α)} {i : Nat} {x : α}, get (l ++ m) i = some x → get l i = some x ∨ (get l i = none ∧ get m i = some x)
  | [], _, _, _, h => .inr ⟨rfl, h⟩
  | (j, y) :: l, m, i, x, h => by
    rw [List.cons_append, get_cons] at h
    rw [get_cons]
    split at h
    · rename_i e
      rw [if_pos e]
      exact .inl h
    · rename_i e
      rw [if_neg e]
      exact get_app h
theorem below2_get : ∀ {e : Env} {i : Nat} {v : V}, get (below2 e) i = some v → i < 2000000 ∧ get e i = some v
  | [], _, _, h => by cases h
  | (j, y) :: e, i, v, h => by
    simp only [below2] at h
    rw [get_cons]
    cases hb : Nat.blt j 2000000 with
    | true =>
      rw [hb] at h
      simp only [cond_true, get_cons] at h
      have := Nat.blt_eq.mp hb
      split at h
      · rename_i e1
        rw [if_pos e1]
        exact ⟨by omega, h⟩
      · rename_i e1
        rw [if_neg e1]
        exact below2_get h
    | false =>
      rw [hb] at h
      simp only [cond_false] at h
      obtain ⟨h1, h2⟩ := below2_get h
      have hne : j ≠ i := fun e1 => by
        subst e1
        rw [Nat.blt_eq.mpr h1] at hb
        cases hb
      rw [if_neg hne]
      exact ⟨h1, h2⟩
theorem argVs_spec {n : Nat} {e : Env} : ∀ {l : List (Nat × VSh)} {ve : Env}, argVs n l e = some ve → ∀ i v, get ve i = some v → get e (n + i) = some v ∧ ∃ x, (i, x) ∈ l
  | [], ve, h, i, v, hi => by
    cases h
    cases hi
  | (j, x) :: l, ve, h, i, v, hi => by
    simp only [argVs] at h
    split at h
    case h_2 => cases h
    rename_i v1 hv1
    split at h
    case h_2 => cases h
    rename_i l' hl'
    cases h
    rw [get_cons] at hi
    split at hi
    · rename_i e1
      cases hi
      subst e1
      exact ⟨hv1, x, List.mem_cons_self⟩
    · obtain ⟨h1, y, h2⟩ := argVs_spec hl' i v hi
      exact ⟨h1, y, List.mem_cons_of_mem _ h2⟩
theorem parms_mem : ∀ {l : List (Nat × VSh)} {i : Nat} {x : VSh}, (i, x) ∈ parms l → (i, x) ∈ l ∧ i < 1000000
  | [], _, _, h => by cases h
  | (j, y) :: l, i, x, h => by
    simp only [parms] at h
    cases hb : Nat.blt j 1000000 with
    | true =>
      rw [hb] at h
      simp only [cond_true] at h
      cases h with
      | head => exact ⟨List.mem_cons_self, Nat.blt_eq.mp hb⟩
      | tail _ h => exact ⟨List.mem_cons_of_mem _ (parms_mem h).1, (parms_mem h).2⟩
    | false =>
      rw [hb] at h
      exact ⟨List.mem_cons_of_mem _ (parms_mem h).1, (parms_mem h).2⟩
/-- What a ghost is. -/
def GhostOf (T : Tab) (i : Nat) (x : VSh) (v : V) : Prop := 1000000 ≤ i ∧ ((∃ id, x = .pt id 0 ∧ v = .pt id 0 ∧ ((∃ ty cs, get T id = some (.box ty cs)) ∨ ∃ ty n t xs, get T id = some (.arr ty n t xs))) ∨ ∃ id e al t xs, x = .c (.own id) ∧ v = .c (.own id) ∧ get T id = some (.row e al t xs))
theorem ghosts_spec {T : Tab} : ∀ {l : List (Nat × VSh)} {ge : Env}, ghosts l T = some ge → (∀ i v, get ge i = some v → ∃ x, (i, x) ∈ l ∧ GhostOf T i x v) ∧ ∀ k x, 1000000 ≤ k → get l k = some x → ∃ v, get ge k = some v ∧ GhostOf T k x v
  | [], ge, h => by
    cases h
    exact ⟨fun i v hi => by simp [get] at hi, fun k x _ hk => by simp [get] at hk⟩
  | (j, y) :: l, ge, h => by
    simp only [ghosts] at h
    cases hb : Nat.blt j 1000000 with
    | true =>
      rw [hb] at h
      simp only [cond_true] at h
      obtain ⟨h1, h2⟩ := ghosts_spec h
      have hj := Nat.blt_eq.mp hb
      refine ⟨fun i v hi => (h1 i v hi).imp fun x hx => ⟨List.mem_cons_of_mem _ hx.1, hx.2⟩, fun k x hk hg => ?_⟩
      rw [get_cons, if_neg (by omega)] at hg
      exact h2 k x hk hg
    | false =>
      rw [hb] at h
      simp only [cond_false] at h
      have hj : 1000000 ≤ j := by
        rcases Nat.lt_or_ge j 1000000 with h' | h'
        · rw [Nat.blt_eq.mpr h'] at hb; cases hb
        · exact h'
      have go : ∀ v l', ghosts l T = some l' → GhostOf T j y v → ge = (j, v) :: l' → (∀ i v, get ge i = some v → ∃ x, (i, x) ∈ (j, y) :: l ∧ GhostOf T i x v) ∧ ∀ k x, 1000000 ≤ k → get ((j, y) :: l) k = some x → ∃ v, get ge k = some v ∧ GhostOf T k x v := fun v l' hl' hG hge => by
        subst hge
        obtain ⟨h1, h2⟩ := ghosts_spec hl'
        refine ⟨fun i u hi => ?_, fun k x hk hg => ?_⟩
        · rw [get_cons] at hi
          split at hi
          · rename_i e1
            cases hi
            subst e1
            exact ⟨y, List.mem_cons_self, hG⟩
          · obtain ⟨x, hx1, hx2⟩ := h1 i u hi
            exact ⟨x, List.mem_cons_of_mem _ hx1, hx2⟩
        · rw [get_cons] at hg ⊢
          split at hg
          · rename_i e1
            cases hg
            subst e1
            exact ⟨v, by rw [if_pos rfl], hG⟩
          · rename_i e1
            rw [if_neg e1]
            exact h2 k x hk hg
      split at h
      · split at h
        · rename_i hT
          split at h
          case h_2 => cases h
          rename_i l' hl'
          cases h
          exact go _ l' hl' ⟨hj, .inl ⟨_, rfl, rfl, .inl ⟨_, _, hT⟩⟩⟩ rfl
        · rename_i hT
          split at h
          case h_2 => cases h
          rename_i l' hl'
          cases h
          exact go _ l' hl' ⟨hj, .inl ⟨_, rfl, rfl, .inr ⟨_, _, _, _, hT⟩⟩⟩ rfl
        · cases h
      · split at h
        · rename_i hT
          split at h
          case h_2 => cases h
          rename_i l' hl'
          cases h
          exact go _ l' hl' ⟨hj, .inr ⟨_, _, _, _, _, rfl, rfl, hT⟩⟩ rfl
        · cases h
      · cases h
theorem gbs_mem : ∀ {l : List (Nat × VSh)} {id : Nat}, has (gbs l) id = true → ∃ k x, (k, x) ∈ l ∧ 1000000 ≤ k ∧ ((∃ off, x = .pt id off) ∨ x = .c (.own id))
  | [], id, h => by cases h
  | (j, y) :: l, id, h => by
    simp only [gbs] at h
    cases hb : Nat.blt j 1000000 with
    | true =>
      rw [hb] at h
      obtain ⟨k, x, h1, h2⟩ := gbs_mem (l := l) h
      exact ⟨k, x, List.mem_cons_of_mem _ h1, h2⟩
    | false =>
      rw [hb] at h
      simp only [cond_false] at h
      have hj : 1000000 ≤ j := by
        rcases Nat.lt_or_ge j 1000000 with h' | h'
        · rw [Nat.blt_eq.mpr h'] at hb; cases hb
        · exact h'
      have later : has (gbs l) id = true → ∃ k x, (k, x) ∈ (j, y) :: l ∧ 1000000 ≤ k ∧ ((∃ off, x = .pt id off) ∨ x = .c (.own id)) := fun h => by
        obtain ⟨k, x, h1, h2⟩ := gbs_mem (l := l) h
        exact ⟨k, x, List.mem_cons_of_mem _ h1, h2⟩
      split at h
      · rename_i id' off
        simp only [has, Bool.or_eq_true] at h
        rcases h with h | h
        · have := Nat.eq_of_beq_eq_true h
          subst this
          exact ⟨j, _, List.mem_cons_self, hj, .inl ⟨off, rfl⟩⟩
        · exact later h
      · rename_i id'
        simp only [has, Bool.or_eq_true] at h
        rcases h with h | h
        · have := Nat.eq_of_beq_eq_true h
          subst this
          exact ⟨j, _, List.mem_cons_self, hj, .inr rfl⟩
        · exact later h
      · exact later h
theorem ghEq_spec {din dout : Desc} : ∀ {l : List (Nat × VSh)}, ghEq din dout l = true → ∀ k x, (k, x) ∈ l → 1000000 ≤ k → ∃ id p q, (x = .pt id 0 ∨ x = .c (.own id)) ∧ get din.slots k = some x ∧ get din.objs id = some p ∧ get dout.objs id = some q ∧ sameKind p q = true
  | [], _, _, _, hm, _ => by cases hm
  | (j, y) :: l, h, k, x, hm, hk => by
    simp only [ghEq, Bool.and_eq_true] at h
    cases hm with
    | tail _ hm => exact ghEq_spec h.2 k x hm hk
    | head =>
      have h := h.1
      have hb : Nat.blt j 1000000 = false := by
        rw [← Bool.not_eq_true, Nat.blt_eq]
        omega
      rw [hb] at h
      simp only [cond_false] at h
      split at h
      · rename_i id
        simp only [Bool.and_eq_true] at h
        obtain ⟨h1, h2⟩ := h
        split at h1
        case h_2 => cases h1
        rename_i id' hs
        have := Nat.eq_of_beq_eq_true h1
        subst this
        split at h2
        case h_2 => cases h2
        rename_i p q hp hq
        exact ⟨_, p, q, .inl rfl, hs, hp, hq, h2⟩
      · rename_i id
        simp only [Bool.and_eq_true] at h
        obtain ⟨h1, h2⟩ := h
        split at h1
        case h_2 => cases h1
        rename_i id' hs
        have := Nat.eq_of_beq_eq_true h1
        subst this
        split at h2
        case h_2 => cases h2
        rename_i p q hp hq
        exact ⟨_, p, q, .inr rfl, hs, hp, hq, h2⟩
      · cases h
theorem closed_slot {d : Desc} (h : closed d = true) {k : Nat} {x : VSh} (hm : (k, x) ∈ d.slots) : vOk d.objs x = true := by
  simp only [closed, Bool.and_eq_true, List.all_eq_true] at h
  exact h.1 _ hm
theorem lentCells_mem {T : Tab} : ∀ {l : List (Nat × OSh)} {id : Nat} {ty : TypeId} {ds : List C}, (get l id).isSome = true → get T id = some (.box ty ds) → ∀ c ∈ ds, c ∈ lentCells T l
  | [], _, _, _, h, _, _, _ => by cases h
  | (j, x) :: l, id, ty, ds, h, hT, c, hc => by
    simp only [lentCells, List.mem_append]
    rw [get_cons] at h
    split at h
    · rename_i e1
      subst e1
      left
      rw [hT]
      exact hc
    · exact .inr (lentCells_mem h hT c hc)
/-- The kind of what a shape unpacks to. -/
def skOk : OSh → Obj → Prop
  | .row _ _ t, o => ∃ e al xs, o = .row e al t xs
  | .box _ _, o => ∃ ty cs, o = .box ty cs
  | .arr _ n t, o => ∃ ty xs, o = .arr ty n t xs
  | .tb _ _ _, o => ∃ ty cs, o = .box ty cs
theorem sameKind_box {p q : OSh} {o : Obj} {ty : TypeId} {ds : List C} (hp : skOk p (.box ty ds)) (h : sameKind p q = true) (ho : skOk q o) : ∃ ty2 cs2, o = .box ty2 cs2 := by
  cases p with
  | row _ _ _ => obtain ⟨_, _, _, h⟩ := hp; cases h
  | arr _ _ _ => obtain ⟨_, _, h⟩ := hp; cases h
  | box _ _ =>
    cases q with
    | row _ _ _ => cases h
    | arr _ _ _ => cases h
    | box _ _ => exact ho
    | tb _ _ _ => exact ho
  | tb _ _ _ =>
    cases q with
    | row _ _ _ => cases h
    | arr _ _ _ => cases h
    | box _ _ => exact ho
    | tb _ _ _ => exact ho
theorem unpackO_kind {R : Type} : ∀ {x : OSh} {z : OSh.cons R x}, skOk x (unpackO x z).1
  | .row _ _ _, _ => ⟨_, _, _, rfl⟩
  | .box _ _, _ => ⟨_, _, rfl⟩
  | .arr _ _ _, _ => ⟨_, _, rfl⟩
  | .tb _ _ _, _ => ⟨_, _, rfl⟩
theorem unpackObjs_kind : ∀ {xs : List (Nat × OSh)} {z : objsX xs} {i : Nat} {o : Obj}, get (unpackObjs xs z) i = some o → ∃ x, get xs i = some x ∧ skOk x o
  | [], _, _, _, h => by cases h
  | (j, x) :: xs, z, i, o, h => by
    simp only [unpackObjs, get_cons] at h
    rw [get_cons]
    split at h
    · rename_i e1
      cases h
      exact ⟨x, by rw [if_pos e1], unpackO_kind⟩
    · rename_i e1
      rw [if_neg e1]
      exact unpackObjs_kind h
theorem unpackSlots_get {R : Type} : ∀ {xs : List (Nat × VSh)} {z : slotsX R xs} {k : Nat} {x : VSh}, get xs k = some x → ∃ v, get (unpackSlots xs z).1 k = some v ∧ (∀ i off, x = .pt i off → v = .pt i off) ∧ ∀ i, x = .c (.own i) → v = .c (.own i)
  | [], _, _, _, h => by cases h
  | (j, y) :: xs, z, k, x, h => by
    simp only [unpackSlots, get_cons] at h ⊢
    split at h
    · rename_i e1
      cases h
      rw [if_pos e1]
      exact ⟨_, rfl, fun i off h => by subst h; rfl, fun i h => by subst h; rfl⟩
    · rename_i e1
      rw [if_neg e1]
      exact unpackSlots_get h
theorem packO_kind {R : Type} {o : Obj} {r : R} : ∀ {x : OSh} {z : OSh.cons R x}, packO o r x = some z → skOk x o
  | .row e al t, z, h => by
    simp only [packO] at h
    cases o with
    | row e' al' u xs =>
      simp only at h
      rcases ble_of h with ⟨_, h⟩ | ⟨_, h⟩
      · split at h
        · rename_i ys hy
          obtain ⟨rfl, _⟩ := asL_some hy
          exact ⟨_, _, _, rfl⟩
        · cases h
      · cases h
    | _ => cases h
  | .box ty xs, z, h => by
    simp only [packO] at h
    cases o with
    | box ty' cs => exact ⟨_, _, rfl⟩
    | _ => cases h
  | .tb ty al t, z, h => by
    cases o with
    | box ty' cs => exact ⟨_, _, rfl⟩
    | _ => cases h
  | .arr ty n t, z, h => by
    simp only [packO] at h
    cases o with
    | arr ty' m u xs =>
      have h2 : (bif Nat.beq ty ty' && Nat.beq n m then (match asL t u xs with | some ys => some (ys, r) | none => none) else none) = some z := h
      clear h
      cases hbb : (Nat.beq ty ty' && Nat.beq n m) with
      | false => rw [hbb] at h2; cases h2
      | true =>
        rw [hbb] at h2
        simp only [cond_true] at h2
        simp only [Bool.and_eq_true] at hbb
        have := Nat.eq_of_beq_eq_true hbb.2
        subst this
        split at h2
        · rename_i ys hy
          obtain ⟨rfl, _⟩ := asL_some hy
          exact ⟨_, _, rfl⟩
        · cases h2
    | _ => cases h
theorem packObjs_kind {T : Tab} : ∀ {xs : List (Nat × OSh)} {z : objsX xs}, packObjs T xs = some z → ∀ i x, (i, x) ∈ xs → ∃ o, get T i = some o ∧ skOk x o
  | [], _, _, _, _, hm => by cases hm
  | (j, y) :: xs, z, h, i, x, hm => by
    simp only [packObjs] at h
    split at h
    case h_2 => cases h
    rename_i r' hr'
    split at h
    case h_2 => cases h
    rename_i o ho
    cases hm with
    | head => exact ⟨o, ho, packO_kind h⟩
    | tail _ hm => exact packObjs_kind hr' i x hm
theorem get_mem {α : Type} : ∀ {l : List (Nat × α)} {i : Nat} {x : α}, get l i = some x → (i, x) ∈ l
  | [], _, _, h => by cases h
  | (j, y) :: l, i, x, h => by
    rw [get_cons] at h
    split at h
    · rename_i e1
      cases h
      subst e1
      exact List.mem_cons_self
    · exact List.mem_cons_of_mem _ (get_mem h)
theorem readO_sk {T : Tab} {objs : List (Nat × OSh)} {x : OSh} {o o' : Obj} (h : readO T objs o = some o') (hk : skOk x o') : skOk x o := by
  cases o with
  | row e al t xs =>
    cases h
    cases x with
    | row e2 al2 t2 =>
      obtain ⟨e3, al3, xs3, h⟩ := hk
      cases h
      exact ⟨_, _, _, rfl⟩
    | box _ _ => obtain ⟨_, _, h⟩ := hk; cases h
    | arr _ _ _ => obtain ⟨_, _, h⟩ := hk; cases h
    | tb _ _ _ => obtain ⟨_, _, h⟩ := hk; cases h
  | box ty ds =>
    simp only [readO] at h
    split at h
    case h_2 => cases h
    cases h
    cases x with
    | row _ _ _ => obtain ⟨_, _, _, h⟩ := hk; cases h
    | box _ _ => exact ⟨_, _, rfl⟩
    | tb _ _ _ => exact ⟨_, _, rfl⟩
    | arr _ _ _ => obtain ⟨_, _, h⟩ := hk; cases h
  | arr ty n t xs =>
    cases h
    exact hk
  | win _ _ _ => cases h
theorem renAll_spec : ∀ {l : List (Nat × Nat)} {σ : Nat → Value} {s s' : St}, RelS fr σ s a w → renAll l s = some s' → ∃ σ', RelS fr σ' s' a w
  | [], σ, s, s', R, h => by cases h; exact ⟨σ, R⟩
  | (i, j) :: l, σ, s, s', R, h => by
    simp only [renAll] at h
    split at h
    case h_2 => cases h
    rename_i s1 hs
    obtain ⟨σ1, R1⟩ := R.ren hs
    exact renAll_spec R1 h
end

section
variable {ρ : Type} {G : Ctx} {fr : Fr} {σ : Nat → Value} {s : St} {a : Act} {w : World} {o : Oper} {K : V → St → Option ρ} {r : ρ}
theorem goes_callL (R : RelS fr σ s a w) {c : Call} (ho : o.op = .call c) {f : FuncId} (hc : c.callee = .value (.func f)) {F : Fn} (hF : CallOk fr.P f F) {vs : List V} (hvs : evAll s c.args.toList = some vs) (hlen : vs.length ≤ 1000) (hcnt : vs.length = cntB F.din.slots) {d : Nat} (h : callL F s d vs K = some r) : Goes fr o a w K r := by
  intro next Q hnext
  unfold callL at h
  rcases ble_of h with ⟨_, h⟩ | ⟨hchk, h⟩
  · cases h
  simp only [Bool.not_eq_false', Bool.and_eq_true] at hchk
  obtain ⟨⟨hcl, hkeys⟩, hgh⟩ := hchk
  split at h
  case h_1 => cases h
  rename_i s0 hs0
  split at h
  case h_1 => cases h
  rename_i s1 hs1
  split at h
  case h_1 => cases h
  rename_i ve hve
  split at h
  case h_1 => cases h
  rename_i ge hge
  split at h
  case h_1 => cases h
  rename_i e he
  split at h
  case h_1 => cases h
  rename_i T hT
  split at h
  case h_1 => cases h
  rename_i x hx
  split at h
  case h_1 => cases h
  rename_i s2 hs2
  cases hrun : F.run x with
  | none => rw [hrun] at h; cases h
  | some res =>
  rw [hrun] at h
  simp only [Option.bind_some] at h
  split at h
  case h_1 => cases h
  rename_i s3 hs3
  split at h
  case h_1 => cases h
  rename_i v hv
  split at h
  case h_1 => cases h
  rename_i s4 hs4
  split at h
  case h_1 => cases h
  rename_i v' hv'
  obtain ⟨l1, l2⟩ := evAll_spec R hvs
  let us := c.args.toList.map a.eval
  have hul : us.length = vs.length := by simp only [us, List.length_map]; exact l1.symm
  -- the arguments as ghosts of the caller
  let ghA : Nat → Value := fun i => if 2000000 ≤ i then us.getD (i - 2000000) Go.undef else fr.gh i
  have hval2 : ∀ i, i < 2000000 → ({ fr with gh := ghA } : Fr).val a i = fr.val a i := fun i hi => by
    unfold Fr.val
    split
    · rfl
    · simp only [ghA]
      rw [if_neg (by omega)]
  have RA : RelS { fr with gh := ghA } σ ⟨argE 2000000 vs ++ below2 s.env, s.T⟩ a w := R.regh ghA fun i u hi => by
    rcases get_app hi with hi | ⟨_, hi⟩
    · obtain ⟨h1, h2⟩ := argE_get hi
      obtain ⟨y, hy, hV⟩ := l2 _ u h2
      have : ({ fr with gh := ghA } : Fr).val a i = a.eval y := by
        unfold Fr.val
        rw [if_neg (by omega)]
        simp only [ghA]
        rw [if_pos h1]
        have : us[i - 2000000]? = some (a.eval y) := by simp only [us, List.getElem?_map, hy]; rfl
        rw [List.getD_eq_getElem?_getD, this]
        rfl
      rw [this]
      exact hV
    · obtain ⟨h1, h2⟩ := below2_get hi
      rw [hval2 i h1]
      exact R.env i u h2
  obtain ⟨σ0, R0⟩ := RA.claimSlots hs0
  obtain ⟨σ1, R1⟩ := R0.claimBoxes hs1
  have hgs := ghosts_spec hge
  let cs := handed F s1 ve
  let gv : Nat → Value := fun i => match get ge i with
    | some (.pt id _) => σ1 id
    | some (.c (.own id)) => σ1 id
    | _ => Go.undef
  let fr' : Fr := { P := fr.P, w0 := w, FA := Reach { fr with gh := ghA } σ1 s1.T w cs, MB := fun b => ∃ id o, (get F.din.objs id).isSome = true ∧ get s1.T id = some o ∧ blk (σ1 id) = some b, new := fun b => w.heap.size ≤ b ∨ ∃ id o, (get F.din.objs id).isSome = true ∧ get s1.T id = some o ∧ blk (σ1 id) = some b, n := us.length, gh := gv }
  have hown : ∀ id, (get F.din.objs id).isSome = true → C.own id ∈ cs := fun id hid => by
    obtain ⟨y, hy⟩ := get_keys.1 hid
    exact List.mem_append_right _ (List.mem_map.2 ⟨(id, y), hy, rfl⟩)
  have hR0 : RelS fr' σ1 ⟨e, T⟩ ⟨us.toArray, []⟩ w := by
    refine callee_rel R1 (objs := F.din.objs) (cs := cs) (fr' := fr') hT he rfl rfl rfl rfl rfl (by omega) (fun i u hi => ?_) hown (fun id ty ds hid hb c hc => List.mem_append_left _ (List.mem_append_right _ (lentCells_mem hid hb c hc)))
    rcases get_app hi with hi | ⟨_, hi⟩
    · refine ⟨fun c hc => List.mem_append_left _ (List.mem_append_left _ (argCells_get hi c hc)), ?_⟩
      obtain ⟨h1, y, h2⟩ := argVs_spec hve i u hi
      obtain ⟨_, hlt⟩ := parms_mem h2
      have hV := R1.env _ u h1
      have e1 : ({ fr with gh := ghA } : Fr).val a (2000000 + i) = us.getD i Go.undef := by
        unfold Fr.val
        rw [if_neg (by omega)]
        simp only [ghA]
        rw [if_pos (by omega), Nat.add_sub_cancel_left]
      rw [e1] at hV
      have e2 : fr'.val ⟨us.toArray, []⟩ i = us.getD i Go.undef := by
        unfold Fr.val
        rw [if_pos hlt, Array.getD_eq_getD_getElem?, List.getD_eq_getElem?_getD]
        simp
      rw [e2]
      exact hV
    · obtain ⟨y, hy, hk, hcase⟩ := hgs.1 i u hi
      have e2 : fr'.val ⟨us.toArray, []⟩ i = gv i := by
        unfold Fr.val
        rw [if_neg (by omega)]
      rw [e2]
      have hvok := closed_slot hcl hy
      rcases hcase with ⟨id, rfl, rfl, hob⟩ | ⟨id, e', al', t', xs', rfl, rfl, hob⟩
      · refine ⟨fun c hc => by simp [argCells] at hc, ?_⟩
        have e3 : gv i = σ1 id := by simp only [gv, hi]
        rw [e3]
        rcases hob with ⟨ty, ds, hob⟩ | ⟨ty, n, t, xs, hob⟩
        · obtain ⟨g, arr, h1, _⟩ := R1.objs id _ hob
          exact ⟨_, ⟨g, 0, none⟩, hob, by rw [h1]; rfl, rfl, by rw [h1]⟩
        · obtain ⟨g, arr, h1, _⟩ := R1.objs id _ hob
          exact ⟨_, ⟨g, 0, none⟩, hob, by rw [h1]; rfl, rfl, by rw [h1]⟩
      · have e3 : gv i = σ1 id := by simp only [gv, hi]
        rw [e3]
        refine ⟨fun c hc => ?_, ⟨rfl, _, hob⟩⟩
        simp only [argCells, List.mem_singleton] at hc
        subst hc
        exact hown id hvok
  have hR1 := hR0.pack hcl hx
  refine call_wp ho hc hF hrun (fr' := fr') (σ' := σ1) rfl rfl rfl (hul.trans hcnt) hR1 fun w' σo us' hl' Ro => ?_
  have hfz := fun (hal : hasAl F.dout = true) => show freezeAll (otherIds F.din.objs (idsOf cs)) s1 = some s2 by rw [hal] at hs2; exact hs2
  have R2 : RelS { fr with gh := ghA } σ1 s2 a w := by
    cases hal : hasAl F.dout with
    | true => exact R1.freezeAll (hfz hal)
    | false => rw [hal] at hs2; cases hs2; exact R1
  have keep2 : ∀ id, (get F.din.objs id).isSome = true → ∀ o, get s1.T id = some o → ∃ o', get s2.T id = some o' ∧ okind o' = okind o := by
    cases hal : hasAl F.dout with
    | true => exact fun id hid o ho => (freezeAll_keep (hfz hal)).1 id (fun hm => by rw [(otherIds_mem.1 hm).2] at hid; cases hid) o ho
    | false => rw [hal] at hs2; cases hs2; exact fun id _ o ho => ⟨o, ho, rfl⟩
  have back2 : ∀ id o', get s2.T id = some o' → ∃ o, get s1.T id = some o ∧ okind o' = okind o := by
    cases hal : hasAl F.dout with
    | true => exact (freezeAll_keep (hfz hal)).2
    | false => rw [hal] at hs2; cases hs2; exact fun id o ho => ⟨o, ho, rfl⟩
  obtain ⟨frD, hLess, RD, d1, d2, d3, d4⟩ := RelS.dropAll (gb := gbs F.dout.slots) F.din.objs R2
  -- what is given back
  have hback : ∀ i, has (gbs F.dout.slots) i = true → ∃ k x p q, (k, x) ∈ F.dout.slots ∧ 1000000 ≤ k ∧ (x = .pt i 0 ∨ x = .c (.own i)) ∧ get F.din.slots k = some x ∧ get F.din.objs i = some p ∧ get F.dout.objs i = some q ∧ sameKind p q = true := fun i hi => by
    obtain ⟨k, y, hm, hk, hy⟩ := gbs_mem hi
    obtain ⟨id, p, q, h1, h2, h3, h4, h5⟩ := ghEq_spec hgh k y hm hk
    have hid : id = i := by
      rcases hy with ⟨off, rfl⟩ | rfl
      · rcases h1 with h1 | h1
        · cases h1; rfl
        · cases h1
      · rcases h1 with h1 | h1
        · cases h1
        · cases h1; rfl
    subst hid
    exact ⟨k, y, p, q, hm, hk, h1, h2, h3, h4, h5⟩
  have hgbo : ∀ i o, has (gbs F.dout.slots) i = true → get (unpack F.dout res).T i = some o → ∃ o', get (dropAll (gbs F.dout.slots) F.din.objs s2).T i = some o' ∧ okind o' = okind o ∧ σo i = σ1 i := fun i o hi ho => by
    obtain ⟨k, y, p, q, hm, hk, hy, hds, hdp, hdq, hsk⟩ := hback i hi
    have hoR := Ro.objs i o ho
    obtain ⟨q', hq', hsko⟩ := unpackObjs_kind ho
    rw [hdq] at hq'
    cases hq'
    obtain ⟨gvv, hgvv, _, hgcase⟩ := hgs.2 k y hk hds
    -- the object as it was handed over
    obtain ⟨ro, hro, hskp⟩ : ∃ ro, get s1.T i = some ro ∧ skOk p ro := by
      have hpk : pack F.din ⟨e, T⟩ = some x := hx
      unfold pack at hpk
      split at hpk
      case h_2 => cases hpk
      rename_i zz hzz
      obtain ⟨o1, ho1, hk1⟩ := packObjs_kind hzz i p (get_mem hdp)
      have := readT_spec hT i
      rw [hdp] at this
      obtain ⟨oa, ob, h1, h2, h3⟩ := this
      rw [h3] at ho1
      cases ho1
      exact ⟨oa, h1, readO_sk h2 hk1⟩
    have hgk : ({ fr' with n := us'.length } : Fr).val ⟨us'.toArray, []⟩ k = gv k := by
      unfold Fr.val
      rw [if_neg (by omega)]
    obtain ⟨vv, hvv, hsame⟩ := unpackSlots_get (z := res) (numB_get hF.2.1.1 k y hm hk)
    have hV := Ro.env k vv hvv
    rw [hgk] at hV
    have hR1o := R1.objs i ro hro
    obtain ⟨o2, ho2, hk2⟩ := keep2 i (by rw [hdp]; rfl) ro hro
    obtain ⟨o3, ho3, hk3⟩ := d3 i (.inr hi) o2 ho2
    -- the same value, the same kind
    have hfin : okind ro = okind o ∧ σo i = σ1 i := by
      rcases hy with rfl | rfl
      · have hvv' := hsame.1 i 0 rfl
        subst hvv'
        rcases hgcase with ⟨id, h1, rfl, hbx⟩ | ⟨id, _, _, _, _, h1, _⟩
        case inr => cases h1
        cases h1
        have e3 : gv k = σ1 i := by simp only [gv, hgvv]
        rw [e3] at hV
        obtain ⟨ov, a0, _, ha0, hsp, hval⟩ := hV
        rcases hbx with ⟨ty, ds, hbx⟩ | ⟨ty, n, t, xs, hbx⟩
        · rw [hro] at hbx
          cases hbx
          obtain ⟨ty2, cs2, rfl⟩ := sameKind_box hskp hsk hsko
          obtain ⟨g2, arr2, hg2, _⟩ := hoR
          refine ⟨rfl, ?_⟩
          rw [hg2] at ha0
          simp [addr] at ha0
          subst ha0
          rw [hg2, hval]
        · rw [hro] at hbx
          cases hbx
          cases p with
          | row _ _ _ => obtain ⟨_, _, _, h⟩ := hskp; cases h
          | box _ _ => obtain ⟨_, _, h⟩ := hskp; cases h
          | tb _ _ _ => obtain ⟨_, _, h⟩ := hskp; cases h
          | arr tp np tt =>
            obtain ⟨_, _, h⟩ := hskp
            cases h
            cases q with
            | row _ _ _ => cases hsk
            | box _ _ => cases hsk
            | tb _ _ _ => cases hsk
            | arr tq nq tt2 =>
              simp only [sameKind, Bool.and_eq_true] at hsk
              have e4 := Nat.eq_of_beq_eq_true hsk.1
              have e5 := Nat.eq_of_beq_eq_true hsk.2
              obtain ⟨ty2, xs2, rfl⟩ := hsko
              obtain ⟨g2, arr2, hg2, _⟩ := hoR
              refine ⟨by simp only [okind, e4, e5], ?_⟩
              rw [hg2] at ha0
              simp [addr] at ha0
              subst ha0
              rw [hg2, hval]
      · have hvv' := hsame.2 i rfl
        subst hvv'
        rcases hgcase with ⟨id, h1, _⟩ | ⟨id, e1, al1, t1, xs1, h1, rfl, hbx⟩
        · cases h1
        cases h1
        have e3 : gv k = σ1 i := by simp only [gv, hgvv]
        rw [e3] at hV
        obtain ⟨hval, _⟩ := hV
        rw [hro] at hbx
        cases hbx
        cases p with
        | box _ _ => obtain ⟨_, _, h⟩ := hskp; cases h
        | tb _ _ _ => obtain ⟨_, _, h⟩ := hskp; cases h
        | arr _ _ _ => obtain ⟨_, _, h⟩ := hskp; cases h
        | row tp ap tt =>
          obtain ⟨_, _, _, h⟩ := hskp
          cases h
          cases q with
          | box _ _ => cases hsk
          | tb _ _ _ => cases hsk
          | arr _ _ _ => cases hsk
          | row tq aq tt2 =>
            have e5 := Nat.eq_of_beq_eq_true hsk
            obtain ⟨e6, al6, xs6, rfl⟩ := hsko
            obtain ⟨A1, c1, q1, _⟩ := row_read hR1o (F := fun _ => True) (fun _ _ => trivial) (fun _ _ => trivial)
            obtain ⟨A2, c2, q2, _⟩ := row_read hoR (F := fun _ => True) (fun _ _ => trivial) (fun _ _ => trivial)
            rw [q1, q2] at hval
            simp only [Value.slice.injEq] at hval
            refine ⟨by simp only [okind, e5, hval.2.1], ?_⟩
            rw [q1, q2, hval.1, hval.2.1, hval.2.2]
    exact ⟨o3, ho3, by rw [hk3, hk2, hfin.1], hfin.2⟩
  have hgbs : ∀ i o, has (gbs F.dout.slots) i = true → get (dropAll (gbs F.dout.slots) F.din.objs s2).T i = some o → ∃ o', get (unpack F.dout res).T i = some o' := fun i o hi _ => by
    obtain ⟨k, y, p, q, hm, hk, hy, hds, hdp, hdq, hsk⟩ := hback i hi
    exact unpackObjs_is i (by rw [hdq]; rfl)
  obtain ⟨σ2, R3, crF, ptF⟩ := merge (fr := { fr with gh := ghA }) (ha := hasAl F.dout) (gb := gbs F.dout.slots) RD Ro rfl hLess R.fa R.kept.nmb (fun b hb => by
      obtain ⟨id, o', hid, ho', hbk⟩ := hb
      obtain ⟨o2, ho2, _⟩ := keep2 id hid o' ho'
      refine ⟨((R1.objs id o' ho').lt b hbk).1, ((R1.objs id o' ho').lt b hbk).2, ?_⟩
      cases hg : has (gbs F.dout.slots) id with
      | true =>
        obtain ⟨o3, ho3, _⟩ := d3 id (.inr hg) o2 ho2
        exact .inl ⟨id, o3, hg, ho3, hbk⟩
      | false => exact .inr ((d1 id hid hg).1 o2 b ho2 hbk)) (fun b hb => .inr hb) (fun b i o' hb ho' hbk => by
      obtain ⟨id, o1, hid, ho1, hbk1⟩ := hb
      obtain ⟨o2, ho2, _⟩ := d2 i o' ho'
      obtain ⟨o3, ho3, _⟩ := back2 i o2 ho2
      have : i = id := Classical.byContradiction fun hne => R1.dist i o3 id o1 ho3 ho1 hne b hbk hbk1
      subst this
      cases hg : has (gbs F.dout.slots) i with
      | true => rfl
      | false =>
        rw [(d1 i hid hg).2] at ho'
        cases ho') hgbo hgbs
      (fun id o' hi hf => by
        have := unpackObjs_flag hi hf
        simp only [hasAl, this, Bool.or_true]) (fun hha b hb => by
        have hf2 := freezeAll_foot R1 (hfz hha)
        rcases hb with hb | ⟨i, hi, oi, hoi, hbk⟩
        · exact .inl (d4 _ b (hf2.1 _ b hb))
        · cases hg : get F.din.objs i with
          | some y => exact .inr ⟨i, oi, by rw [hg]; rfl, hoi, hbk⟩
          | none => exact .inl (Foot.up (by simp) (d4 _ b (hf2.2 i (otherIds_mem.2 ⟨hi, hg⟩) oi hoi b hbk)))) hs3
  have hVv := resE_spec (ha := hasAl F.dout) crF ptF (numE_of hF.2.1.1) (by rw [hl']; exact (cntE_of (xs := F.dout.slots) (z := res)).symm) (fun i u hm c hc hf => by
      have := unpackSlots_flag hm hc hf
      simp only [hasAl, this, Bool.true_or]) (fun i u hm hi => by
      have := Ro.env i u (num_get (numE_of hF.2.1.1) i u hm hi)
      unfold Fr.val at this
      rw [if_pos hi] at this
      rw [Array.getD_eq_getD_getElem?] at this
      rw [List.getD_eq_getElem?_getD]
      simpa using this) hv
  -- the result as a ghost, while what was given back takes its numbers
  let ghB : Nat → Value := fun i => if i = 2999999 then retV us' else ghA i
  have RB : RelS { fr with gh := ghB } σ2 ⟨(2999999, v) :: s3.env, s3.T⟩ a w' := R3.regh (fr := { fr with gh := ghA }) ghB fun i u hi => by
    rw [get_cons] at hi
    split at hi
    · rename_i e1
      cases hi
      subst e1
      have : ({ fr with gh := ghB } : Fr).val a 2999999 = retV us' := by
        unfold Fr.val
        rw [if_neg (by omega)]
        simp only [ghB, if_true]
      show VR _ σ2 s3.T w' v (({ fr with gh := ghB } : Fr).val a 2999999)
      rw [this]
      exact hVv
    · rename_i e1
      have : ({ fr with gh := ghB } : Fr).val a i = ({ fr with gh := ghA } : Fr).val a i := by
        unfold Fr.val
        simp only [ghB]
        split
        · rfl
        · rw [if_neg (Ne.symm e1)]
      show VR _ σ2 s3.T w' u (({ fr with gh := ghB } : Fr).val a i)
      rw [this]
      exact R3.env i u hi
  obtain ⟨σ3, R4⟩ := renAll_spec RB hs4
  have hv4 := R4.env 2999999 v' hv'
  have hval4 : ({ fr with gh := ghB } : Fr).val a 2999999 = retV us' := by
    unfold Fr.val
    rw [if_neg (by omega)]
    simp only [ghB, if_true]
  rw [hval4] at hv4
  have R5 : RelS { fr with gh := fr.gh } σ3 ⟨below2 s4.env, s4.T⟩ a w' := R4.regh (fr := { fr with gh := ghB }) fr.gh fun i u hi => by
    obtain ⟨h1, h2⟩ := below2_get hi
    have : ({ fr with gh := fr.gh } : Fr).val a i = ({ fr with gh := ghB } : Fr).val a i := by
      unfold Fr.val
      simp only [ghB, ghA]
      split
      · rfl
      · rw [if_neg (by omega), if_neg (by omega)]
    show VR _ σ3 s4.T w' u (({ fr with gh := fr.gh } : Fr).val a i)
    rw [this]
    exact R4.env i u h2
  exact hnext v' ⟨below2 s4.env, s4.T⟩ σ3 _ w' h R5 (VR.ungh hv4)
theorem goes_call (R : RelS fr σ s a w) {c : Call} (ho : o.op = .call c) {f : FuncId} (hc : c.callee = .value (.func f)) {F : Fn} (hF : CallOk fr.P f F) {vs : List V} (hvs : evAll s c.args.toList = some vs) {d : Nat} (h : callK F s d vs K = some r) : Goes fr o a w K r := by
  unfold callK at h
  rcases ble_of h with ⟨hl, h⟩ | ⟨_, h⟩
  · simp only [Bool.and_eq_true] at hl
    have hct := Nat.eq_of_beq_eq_true hl.2
    have hl := Nat.le_of_ble_eq_true hl.1
    rcases ble_of h with ⟨_, h⟩ | ⟨_, h⟩
    · exact goes_callR R ho hc hF hvs hl hct h
    · exact goes_callL R ho hc hF hvs hl hct h
  · cases h
end
end Go.Proofs.Ytfmfgomijjibgaa.Abs
end

section
namespace Go.Proofs.Ytfmfgomijjibgaa.Abs
open Go.RowKit

section
variable {ρ : Type} {G : Ctx} {fr : Fr} {σ : Nat → Value} {s : St} {a : Act} {w : World} {o : Oper} {K : V → St → Option ρ} {r : ρ}

theorem beq0 {n : Nat} (h : (Nat.beq n 0) = false) : n ≠ 0 := fun e => by rw [e] at h; cases h

theorem goes_builtin (R : RelS fr σ s a w) (H : TIs fr.P G) {c : Call} (ho : o.op = .call c) {b : Builtin} (hc : c.callee = .builtin b) {vs : List V} (hvs : evAll s c.args.toList = some vs) {d : Nat} (h : builtinK G s d b c.argTypes.toList vs K = some r) : Goes fr o a w K r := by
  unfold builtinK at h
  split at h
  · rename_i x
    split at h
    · rename_i t ht
      exact goes_len R H ho hc hvs ht h
    · cases h
  · exact goes_minmax R false ho hc hvs h
  · exact goes_minmax R true ho hc hvs h
  · rename_i dst src
    split at h
    case h_2 => cases h
    rename_i t0 t1 hat
    split at h
    case h_2 => cases h
    rename_i e t hE
    rcases ble_of h with ⟨_, h'⟩ | ⟨hz, h'⟩
    · cases h'
    · simp only [Bool.or_eq_false_iff] at hz
      refine goes_append (d := d) R H ho hc hvs hat hE (beq0 hz.1) (beq0 hz.2) ?_
      split at h'
      · split at h'
        · rcases ble_of h' with ⟨h1, h2⟩ | ⟨_, h2⟩
          · exact .inl ⟨_, rfl, rfl, h1, h2⟩
          · cases h2
        · cases h'
      · split at h'
        · rename_i ys hy
          rcases ble_of h' with ⟨h1, h2⟩ | ⟨_, h2⟩
          · exact .inr ⟨ys, hy, h1, h2⟩
          · cases h2
        · cases h'
  · cases h

theorem opK_sound (R : RelS fr σ s a w) (H : TIs fr.P G) (HC : ∀ f F, get G.calls f = some F → CallOk fr.P f F) (h : opK G o s K = some r) : Goes fr o a w K r := by
  unfold opK at h
  simp only [] at h
  split at h
  · rename_i x ho; exact goes_move R (.inl ho) h
  · rename_i x ho; exact goes_move R (.inr ho) h
  · rename_i x ho
    split at h
    · rename_i hv; exact goes_nilCheck R ho hv (.inl ⟨_, _, rfl⟩) h
    · rename_i hv; exact goes_nilCheck R ho hv (.inr ⟨_, _, _, rfl⟩) h
    · cases h
  · rename_i c x y ho
    split at h
    case h_2 => cases h
    rename_i b hc
    have h1 := fun v (hv : ev s x = some v) => ev_spec R hv
    have h2 := fun v (hv : ev s y = some v) => ev_spec R hv
    generalize hx : ev s x = px at h
    generalize hy : ev s y = py at h
    split at h
    · refine goes_pick R ho hc ?_ h
      have h1 := h1 _ hx
      have h2 := h2 _ hy
      split
      · exact h1
      · exact h2
    · exact goes_pick R ho hc (by simpa using h1 _ hx) h
    · exact goes_pick R ho hc (by simpa using h2 _ hy) h
    · cases h
  · rename_i op t x y t' ho
    split at h
    case h_2 => cases h
    rename_i v hv
    split at h
    case h_2 => cases h
    rename_i v' hv'
    exact goes_bin R H ho hv hv' h
  · rename_i op t x ho
    exact goes_un R ho h
  · rename_i src dst x ho
    rcases ble_of h with ⟨_, h'⟩ | ⟨hs, h'⟩
    · cases h'
    · split at h'
      · rename_i hv
        split at h'
        · rename_i hd
          exact goes_convert_int R H ho hs hv hd h'
        · cases h'
      · rename_i hv
        split at h'
        · rename_i hd
          exact goes_convert_str R H ho hs hv hd h'
        · rename_i hd
          rcases ble_of h' with ⟨hb, h2⟩ | ⟨_, h2⟩
          · simp only [Bool.and_eq_true] at hb
            exact goes_convert_bytes R H ho hv hb.1 hb.2 h2
          · cases h2
        · cases h'
      · rename_i id hv
        rcases ble_of h' with ⟨_, h2⟩ | ⟨hb, h2⟩
        · cases h2
        · split at h2
          · rename_i hd
            split at h2
            · rename_i xs hxs
              exact goes_convert_text R H ho hv (by simpa using hb) hd hxs h2
            · cases h2
          · rcases ble_of h2 with ⟨hb2, h3⟩ | ⟨_, h3⟩
            · clear h2
              simp only [Bool.and_eq_true] at hb2
              have he := Nat.eq_of_beq_eq_true hb2.1
              subst he
              split at h3
              · rename_i e al t y ys hT
                split at h3
                · rename_i s' hf
                  exact goes_convert_same R H ho hv hb2.2 hT hf h3
                · cases h3
              · cases h3
            · cases h3
          · cases h2
      · rename_i hv
        rcases ble_of h' with ⟨_, h2⟩ | ⟨hb, h2⟩
        · cases h2
        · split at h2
          · rename_i hd
            split at h2
            · rename_i xs hxs
              exact goes_convert_text R H ho hv (by simpa using hb) hd hxs h2
            · cases h2
          · cases h2
      · cases h'
  · rename_i t x lo hi ho
    split at h
    case h_2 => cases h
    rename_i v hv
    split at h
    case h_2 => cases h
    rename_i l hl
    split at h
    case h_2 => cases h
    rename_i hh hhi
    rcases ble_of h with ⟨hs, h'⟩ | ⟨_, h'⟩
    · exact goes_slice R H ho hv hl hhi hs h'
    · cases h'
  · rename_i t x i ho
    split at h
    case h_2 => cases h
    rename_i v hv
    split at h
    case h_2 => cases h
    rename_i n hn
    rcases ble_of h with ⟨hs, h'⟩ | ⟨_, h'⟩
    · exact goes_indexAddr R H ho hv hn h' hs
    · cases h'
  · rename_i t x i ho
    split at h
    case h_2 => cases h
    rename_i xs hv
    split at h
    case h_2 => cases h
    rename_i n hn
    rcases ble_of h with ⟨_, h'⟩ | ⟨hs, h'⟩
    · cases h'
    · split at h'
      · rename_i hb
        exact goes_index R H ho hv hn (by simpa using hs) hb h'
      · cases h'
  · rename_i t x f ho
    cases ht : (tiOf G t).ty with
    | none => rw [ht] at h; cases h
    | some τ =>
      rw [ht] at h
      simp only [Option.isNone_some, cond_false] at h
      split at h
      case h_2 => cases h
      rename_i off n g hf
      exact goes_fieldAddr R H ho ht hf h
  · rename_i t x f ho
    cases ht : (tiOf G t).ty with
    | none => rw [ht] at h; cases h
    | some τ =>
      rw [ht] at h
      simp only [Option.isNone_some, cond_false] at h
      split at h
      case h_2 => cases h
      rename_i off n g hf
      split at h
      case h_2 => cases h
      rename_i cs hv
      split at h
      case h_2 => cases h
      rename_i v hm
      exact goes_field R H ho ht hf hv hm h
  · rename_i x i ho
    split at h
    case h_2 => cases h
    rename_i vs hv
    split at h
    case h_2 => cases h
    rename_i g cs hi
    split at h
    case h_2 => cases h
    rename_i v hm
    exact goes_extract R ho hv hi hm h
  · rename_i t x ho
    split at h
    case h_2 => cases h
    rename_i ty ht
    split at h
    · rename_i id hv
      split at h
      · rename_i tt n u xs m u' hT
        rcases ble_of h with ⟨hb, h'⟩ | ⟨_, h'⟩
        · simp only [Bool.and_eq_true, decide_eq_true_eq] at hb
          obtain ⟨⟨h1, rfl⟩, h3⟩ := hb
          have := Nat.eq_of_beq_eq_true h1
          subst this
          exact goes_load_arr R H ho ht h3 hv hT h'
        · cases h'
      · split at h
        case h_2 => cases h
        rename_i cs hc
        split at h
        case h_2 => cases h
        rename_i v hm
        exact goes_load R H ho ht hv hc hm h
    · rename_i v _ hv
      split at h
      case h_2 => cases h
      rename_i cs hc
      split at h
      case h_2 => cases h
      rename_i v hm
      exact goes_load R H ho ht hv hc hm h
    · cases h
  · rename_i t x y ho
    split at h
    case h_2 => cases h
    rename_i ty ht
    split at h
    case h_2 => cases h
    rename_i ad hx
    split at h
    · rename_i n u xs hy
      split at h
      · rename_i id
        split at h
        · rename_i tt m u' ys hT
          rcases ble_of h with ⟨hb, h'⟩ | ⟨_, h'⟩
          · simp only [Bool.and_eq_true, decide_eq_true_eq] at hb
            obtain ⟨⟨⟨h1, rfl⟩, h3⟩, h4⟩ := hb
            have := Nat.eq_of_beq_eq_true h1
            subst this
            exact goes_store_arr R H ho ht hx hy hT (Nat.eq_of_beq_eq_true h3) (by simpa using h4) h'
          · cases h'
        · cases h
      · cases h
    · rename_i v _ hy
      split at h
      case h_2 => cases h
      rename_i cs hcs
      rcases ble_of h with ⟨hb, h'⟩ | ⟨_, h'⟩
      case inr => cases h'
      have hb := Nat.eq_of_beq_eq_true hb
      split at h'
      · split at h'
        case h_2 => cases h'
        rename_i s1 hs1
        split at h'
        case h_2 => cases h'
        rename_i v1 hv1
        split at h'
        case h_2 => cases h'
        rename_i cs1 hcs1
        split at h'
        case h_2 => cases h'
        rename_i ad1 had1
        split at h'
        case h_2 => cases h'
        rename_i s2 hs2
        rcases ble_of hs2 with ⟨hb1, hs2⟩ | ⟨_, hs2⟩
        case inr => cases hs2
        exact goes_store R H ho ht hs1 hv1 hcs1 (Nat.eq_of_beq_eq_true hb1) had1 hs2 h'
      · split at h'
        case h_2 => cases h'
        rename_i s2 hs2
        exact goes_store R H ho ht (ids := []) rfl hy hcs hb hx hs2 h'
    · cases h
  · rename_i t ho
    split at h
    · rename_i n u ht
      rcases ble_of h with ⟨_, h'⟩ | ⟨_, h'⟩
      · cases h'
      · split at h'
        case h_2 => cases h'
        rename_i s' hn
        exact goes_alloc R H ho ht (.inr ⟨n, u, s', rfl, hn, h'⟩)
    · rename_i ty _ ht
      split at h
      case h_2 => cases h
      rename_i s' hn
      exact goes_alloc R H ho ht (.inl ⟨s', hn, h⟩)
    · cases h
  · rename_i t x ho
    split at h
    case h_2 => cases h
    split at h
    · rename_i n u xs hv
      split at h
      case h_2 => cases h
      rename_i s' hn
      exact goes_box R ho hv (.inr ⟨n, u, xs, s', rfl, hn, h⟩)
    · rename_i v _ hv
      split at h
      case h_2 => cases h
      rename_i cs hc
      rcases ble_of h with ⟨_, h'⟩ | ⟨_, h'⟩
      case inr => cases h'
      split at h'
      case h_2 => cases h'
      rename_i s' hn
      exact goes_box R ho hv (.inl ⟨cs, s', hc, hn, h'⟩)
    · cases h
  · rename_i t parts ho
    split at h
    · rename_i n u ht
      rcases ble_of h with ⟨_, h'⟩ | ⟨hb, h'⟩
      · cases h'
      · simp only [Bool.or_eq_false_iff, Bool.not_eq_false'] at hb
        exact goes_build R H ho ht hb.2 (.inr ⟨n, u, rfl, hb.1.2, h'⟩)
    · rename_i ty _ ht
      rcases ble_of h with ⟨_, h'⟩ | ⟨hb, h'⟩
      · cases h'
      · split at h'
        case h_2 => cases h'
        rename_i cs hc
        exact goes_build R H ho ht (by simpa using hb) (.inl ⟨cs, hc, h'⟩)
    · cases h
  · rename_i t len parts ho
    split at h
    case h_2 => cases h
    rename_i e u hE
    rcases ble_of h with ⟨hb, h'⟩ | ⟨_, h'⟩
    case inr => cases h'
    simp only [Bool.and_eq_true] at hb
    obtain ⟨⟨⟨b1, b2⟩, b3⟩, b4⟩ := hb
    split at h'
    case h_2 => cases h'
    rename_i vs hvs
    split at h'
    case h_2 => cases h'
    rename_i css hcss
    split at h'
    case h_2 => cases h'
    rename_i s1 hs1
    split at h'
    case h_2 => cases h'
    rename_i xs hxs
    split at h'
    case h_2 => cases h'
    rename_i s2 hn
    exact goes_buildSlice R H ho hE (Nat.eq_of_beq_eq_true b1) b2 (Nat.le_of_ble_eq_true b3) (Nat.le_of_ble_eq_true b4) hvs hcss hs1 hxs hn h'
  · rename_i t l c ho
    split at h
    case h_2 => cases h
    rename_i e u hE
    split at h
    case h_2 => cases h
    rename_i n hx
    split at h
    case h_2 => cases h
    rename_i m hy
    rcases ble_of h with ⟨_, h'⟩ | ⟨hb, h'⟩
    · cases h'
    · split at h'
      case isFalse => cases h'
      rename_i hc
      split at h'
      case h_2 => cases h'
      rename_i s' hn
      exact goes_makeSlice R H ho hE hx hy (beq0 hb) hc hn h'
  · rename_i c ho
    split at h
    · rename_i b hc
      split at h
      case h_2 => cases h
      rename_i vs hvs
      exact goes_builtin R H ho hc hvs h
    · rename_i f hc
      split at h
      case h_2 => cases h
      rename_i F hF
      split at h
      case h_2 => cases h
      rename_i vs hvs
      exact goes_call R ho hc (HC f F hF) hvs h
    · cases h
  · cases h
end
end Go.Proofs.Ytfmfgomijjibgaa.Abs
end

section
namespace Go.Proofs.Ytfmfgomijjibgaa.Abs
open Go.RowKit

section
variable {ρ : Type} {G : Ctx} {fr : Fr} {σ : Nat → Value} {s : St} {a : Act} {w : World} {r : ρ}

theorem getD_get {a : Act} {d : Nat} {b : Bool} (h : a.tmps.getD d Go.undef = .bool b) : a.tmps[d]? = some (.bool b) := by
  rw [Array.getD_eq_getD_getElem?] at h
  cases hd : a.tmps[d]? with
  | none => rw [hd] at h; cases h
  | some v => rw [hd] at h; simp at h; rw [h]
theorem yielded_bool {ops : Array Oper} {a : Act} {j d : Nat} {oj : Oper} {b : Bool} (hj : ops[j]? = some oj) (hd : oj.dst = some d) (h : a.tmps.getD d Go.undef = .bool b) : yielded ops a.tmps j = some b := by
  unfold yielded
  rw [hj]
  simp only [Option.bind_some, hd, getD_get h]
theorem yielded_skip {ops : Array Oper} {a : Act} {j d : Nat} {oj : Oper} (hj : ops[j]? = some oj) (hd : oj.dst = some d) (h : a.tmps.getD d Go.undef = Go.undef) : yielded ops a.tmps j = none := by
  unfold yielded
  rw [hj]
  simp only [Option.bind_some, hd]
  rw [Array.getD_eq_getD_getElem?] at h
  cases hd : a.tmps[d]? with
  | none => rfl
  | some v =>
    rw [hd] at h
    simp at h
    rw [h]
    rfl

theorem aOps_sound (H : TIs fr.P G) (HC : ∀ f F, get G.calls f = some F → CallOk fr.P f F) (hn : G.n = fr.n) {ops : Array Oper} {Q : Exit → Act → World → Prop} {K : St → Option ρ} (hQ : ∀ σ s a w, K s = some r → RelS fr σ s a w → Q .normal a w) :
    ∀ (l : List Oper) (i : Nat) (σ : Nat → Value) (s : St) (a : Act) (w : World), (∀ (j : Nat) o, l[j]? = some o → ops[i + j]? = some o) → aOps G ops l s K = some r → RelS fr σ s a w → wpOps fr.P ops Q (List.range' i l.length) a w
  | [], i, σ, s, a, w, _, h, R => by
    simp only [aOps] at h
    exact hQ σ s a w h R
  | o :: l, i, σ, s, a, w, hl, h, R => by
    have h0 := hl 0 o rfl
    rw [Nat.add_zero] at h0
    have hl' : ∀ (j : Nat) o, l[j]? = some o → ops[i + 1 + j]? = some o := fun j o hj => by
      have := hl (j + 1) o (by simpa using hj)
      rw [show i + 1 + j = i + (j + 1) by omega]
      exact this
    rw [List.length_cons, List.range'_succ]
    simp only [wpOps, h0]
    have doit : ∀ s, RelS fr σ s a w → (opK G o s fun v s' => aOps G ops l (putV G.n s' o.dst v) K) = some r → Region.wanted o (yielded ops a.tmps) = true → (if Region.wanted o (yielded ops a.tmps) = true then Oper.wp fr.P o a w (wpOps fr.P ops Q (List.range' (i + 1) l.length)) Q ∨ Oper.asks fr.P o a w ∧ LetsOut Q else wpOps fr.P ops Q (List.range' (i + 1) l.length) (a.put o.dst Go.undef) w) := fun s R h hw => by
      rw [if_pos hw]
      left
      refine opK_sound R H HC h _ _ fun v s' σ' u w' hK R' hV => ?_
      refine aOps_sound H HC hn hQ l (i + 1) σ' _ _ w' hl' hK ?_
      rw [hn]
      exact R'.dest hV o.dst
    have pass : ∀ s, RelS fr σ s a w → aOps G ops l (putV G.n s o.dst .skip) K = some r → Region.wanted o (yielded ops a.tmps) = false → (if Region.wanted o (yielded ops a.tmps) = true then Oper.wp fr.P o a w (wpOps fr.P ops Q (List.range' (i + 1) l.length)) Q ∨ Oper.asks fr.P o a w ∧ LetsOut Q else wpOps fr.P ops Q (List.range' (i + 1) l.length) (a.put o.dst Go.undef) w) := fun s R h hw => by
      rw [if_neg (by rw [hw]; simp)]
      refine aOps_sound H HC hn hQ l (i + 1) σ _ _ w hl' h ?_
      rw [hn]
      exact R.dest (v := .skip) rfl o.dst
    rw [aOps] at h
    split at h
    · rename_i hg
      exact doit s R h (by simp [Region.wanted, hg])
    · rename_i j want hg
      split at h
      case h_2 => cases h
      rename_i oj hj
      split at h
      case h_2 => cases h
      rename_i dj hdj
      split at h
      · rename_i b hb
        have hy := yielded_bool hj hdj (R.envT hb)
        have hw : Region.wanted o (yielded ops a.tmps) = (b == want) := by
          simp only [Region.wanted, hg, hy]
          cases b <;> cases want <;> rfl
        cases b with
        | true =>
          simp only [if_true] at h
          have R' := R.lit hdj (getT_get hb).2
          cases want with
          | true => exact doit _ R' h (by rw [hw]; rfl)
          | false => exact pass _ R' h (by rw [hw]; rfl)
        | false =>
          simp only [Bool.false_eq_true, if_false] at h
          have R' := R.lit hdj (getT_get hb).2
          cases want with
          | true => exact pass _ R' h (by rw [hw]; rfl)
          | false => exact doit _ R' h (by rw [hw]; rfl)
      · rename_i hb
        have hy := yielded_skip hj hdj (R.envT hb)
        exact pass s R h (by simp [Region.wanted, hg, hy])
      · cases h

/-! ## Code -/
def Post (fr : Fr) (ret : St → Option ρ) (k : Option Nat → St → Option ρ) (r : ρ) : Exit → Act → World → Prop
  | .normal, a, w => ∃ σ s, RelS fr σ s a w ∧ k none s = some r
  | .exit i, a, w => ∃ σ s, RelS fr σ s a w ∧ k (some i) s = some r
  | .ret, a, w => ∃ σ s, RelS fr σ s a w ∧ ret s = some r
  | _, _, _ => False

section
variable (G : Ctx) (L : Seams ρ) (calm : Array Oper → Option (List Nat × Nat)) (ret : St → Option ρ)
/-- What stands in L for the loops and the seams of a code is what they come to. -/
def Good : Code → Prop
  | .seq x y => Good x ∧ Good y ∧ ∀ j, get L.joins (firstId y) = some j → ∀ z k r, j.J z k = some r → aExec G L calm ret y (unpack j.d z) (seamK j.e k) = some r
  | .cond _ x y => Good x ∧ Good y
  | .block _ c => Good c
  | .loop c => Good c ∧ ∀ j, get L.loops (firstId c) = some j → ∀ z k r, j.J z k = some r → ∃ n, loopN j.d (aExec G L calm ret c) n z k = some r
  | _ => True
end
/-- Regions that draw their order. -/
def CalmOk (fr : Fr) (G : Ctx) (calm : Array Oper → Option (List Nat × Nat)) : Prop :=
  ∀ (ρ : Type) (r : ρ) (id : Nat) (ops : Array Oper) (σ : Nat → Value) (s : St) (a : Act) (w : World) (K : St → Option ρ) (Q : Exit → Act → World → Prop) (ms : List Nat) (m : Nat), calm ops = some (ms, m) → aOpsD G ops ms m 0 [] ops.toList s K = some r → RelS fr σ s a w →
    (∀ σ s a w, K s = some r → RelS fr σ s a w → Q .normal a w) → (Code.region id ops true).wp fr.P Q a w

theorem loop_sound {ret : St → Option ρ} {c : Code} {d : Desc} {B : St → (Option Nat → St → Option ρ) → Option ρ} (hB : ∀ k r σ s a w, B s k = some r → RelS fr σ s a w → c.wp fr.P (Post fr ret k r) a w) {k : Option Nat → St → Option ρ} :
    ∀ (n : Nat) (x : d.X) (σ : Nat → Value) (a : Act) (w : World), loopN d B n x k = some r → RelS fr σ (unpack d x) a w → ∀ (b : Frame) (kk : List Item) (cs : List Frame),
      ∃ e a' w', Post fr ret k r e a' w' ∧ Arrives fr.P (lone (b.at a (.code c :: .inLoop c :: kk)) cs w) b kk cs e a' w'
  | 0, x, σ, a, w, h, _ => by simp [loopN] at h
  | n + 1, x, σ, a, w, h, R => by
    intro b kk cs
    simp only [loopN] at h
    obtain ⟨e, a1, w1, hq, harr⟩ := hB _ r σ _ a w h R b (.inLoop c :: kk) cs
    cases e with
    | normal =>
      obtain ⟨σ1, s1, R1, hk⟩ := hq
      simp only [] at hk
      split at hk
      · rename_i x' hx
        obtain ⟨σ2, R2⟩ := R1.enter hx
        obtain ⟨e2, a2, w2, hq2, harr2⟩ := loop_sound hB n x' σ2 a1 w1 hk R2 b kk cs
        exact ⟨e2, a2, w2, hq2, .of_steps (Steps.trans harr (.one step_inLoop)) harr2⟩
      · cases hk
    | exit id => exact ⟨.exit id, a1, w1, hq, .pass (x := .inLoop c) rfl (fun _ _ => .inl (by simp)) harr⟩
    | ret => exact ⟨.ret, a1, w1, hq, .pass (x := .inLoop c) rfl (fun _ _ => .inl (by simp)) harr⟩
    | goto l => exact hq.elim
    | panic ch => exact hq.elim
    | outgrown => exact hq.elim

theorem aExec_sound (H : TIs fr.P G) (HC : ∀ f F, get G.calls f = some F → CallOk fr.P f F) (hn : G.n = fr.n) {L : Seams ρ} {calm : Array Oper → Option (List Nat × Nat)} (hcalm : CalmOk fr G calm) {ret : St → Option ρ} :
    ∀ (c : Code), Good G L calm ret c → ∀ (k : Option Nat → St → Option ρ) (r : ρ) (σ : Nat → Value) (s : St) (a : Act) (w : World), aExec G L calm ret c s k = some r → RelS fr σ s a w → c.wp fr.P (Post fr ret k r) a w := by
  intro c
  induction c with
  | skip => intro _ k r σ s a w h R; exact wp_skip ⟨σ, s, R, h⟩
  | label l => intro _ k r σ s a w h R; exact wp_label ⟨σ, s, R, h⟩
  | region id ops draw =>
    intro _ k r σ s a w h R
    simp only [aExec] at h
    cases draw with
    | false =>
      simp only [cond_false] at h
      refine wp_region ?_
      have := aOps_sound H HC hn (ops := ops) (Q := Post fr ret k r) (K := fun s' => k none s') (r := r) (fun σ s a w hk R => ⟨σ, s, R, hk⟩) ops.toList 0 σ s a w (fun j o hj => by simpa using hj) h R
      rw [List.range_eq_range', ← Array.length_toList]
      exact this
    | true =>
      simp only [cond_true] at h
      split at h
      case h_2 => cases h
      rename_i ms m hc
      exact hcalm ρ r id ops σ s a w (fun s' => k none s') _ ms m hc h R fun σ s a w hk R => ⟨σ, s, R, hk⟩
  | seq x y ihx ihy =>
    intro hg k r σ s a w h R
    obtain ⟨gx, gy, gj⟩ := hg
    simp only [aExec] at h
    refine wp_seq (wp_mono (ihx gx _ r σ s a w h R) fun e a1 w1 hq => ?_)
    cases e with
    | normal =>
      obtain ⟨σ1, s1, R1, hk⟩ := hq
      simp only [] at hk
      split at hk
      · exact ihy gy k r σ1 s1 a1 w1 hk R1
      · rename_i j hj
        split at hk
        case h_2 => cases hk
        rename_i z hz
        obtain ⟨σ2, R2⟩ := R1.enter hz
        refine wp_mono (ihy gy _ r σ2 _ a1 w1 (gj j hj z k r hk) R2) fun e a2 w2 hq2 => ?_
        cases e with
        | normal =>
          obtain ⟨σ3, s3, R3, hk3⟩ := hq2
          unfold seamK at hk3
          simp only [] at hk3
          split at hk3
          case h_2 => cases hk3
          rename_i d _
          split at hk3
          case h_2 => cases hk3
          rename_i z3 hz3
          obtain ⟨σ4, R4⟩ := R3.enter hz3
          exact ⟨σ4, _, R4, hk3⟩
        | exit i => exact hq2
        | ret => exact hq2
        | goto l => exact hq2.elim
        | panic ch => exact hq2.elim
        | outgrown => exact hq2.elim
    | exit i => exact hq
    | ret => exact hq
    | goto l => exact hq.elim
    | panic ch => exact hq.elim
    | outgrown => exact hq.elim
  | cond c x y ihx ihy =>
    intro hg k r σ s a w h R
    simp only [aExec] at h
    split at h
    case h_2 => cases h
    rename_i b hc
    have hb : a.eval c = .bool b := evC_spec R hc
    refine wp_cond hb ?_
    cases b with
    | true => exact ihx hg.1 k r σ s a w h R
    | false => exact ihy hg.2 k r σ s a w h R
  | block id c ih =>
    intro hg k r σ s a w h R
    simp only [aExec] at h
    refine wp_block (wp_mono (ih hg _ r σ s a w h R) fun e a1 w1 hq => ?_)
    cases e with
    | normal => exact hq
    | exit i =>
      obtain ⟨σ1, s1, R1, hk⟩ := hq
      simp only [] at hk
      simp only [Exit.inBlock]
      split
      · rename_i e
        subst e
        simp only [Nat.beq_refl, cond_true] at hk
        exact ⟨σ1, s1, R1, hk⟩
      · rename_i e
        rw [beq_ne e] at hk
        exact ⟨σ1, s1, R1, hk⟩
    | ret => exact hq
    | goto l => exact hq.elim
    | panic ch => exact hq.elim
    | outgrown => exact hq.elim
  | loop c ih =>
    intro hg k r σ s a w h R
    obtain ⟨gc, gl⟩ := hg
    simp only [aExec] at h
    split at h
    case h_2 => cases h
    rename_i j hj
    split at h
    case h_2 => cases h
    rename_i z hz
    obtain ⟨σ1, R1⟩ := R.enter hz
    obtain ⟨n, hn'⟩ := gl j hj z k r h
    intro b kk cs
    obtain ⟨e, a', w', hq, harr⟩ := loop_sound (ret := ret) (fun k r σ s a w h R => ih gc k r σ s a w h R) n z σ1 a w hn' R1 b kk cs
    exact ⟨e, a', w', hq, .of_steps (.one step_loop) harr⟩
  | exit id =>
    intro _ k r σ s a w h R
    simp only [aExec] at h
    split at h
    · exact wp_exit ⟨σ, s, R, h⟩
    · split at h
      case h_2 => cases h
      rename_i z hz
      obtain ⟨σ1, R1⟩ := R.enter hz
      exact wp_exit ⟨σ1, _, R1, h⟩
  | ret => intro _ k r σ s a w h R; exact wp_ret ⟨σ, s, R, h⟩
  | rangeFunc f p x y _ _ => intro _ k r σ s a w h _; simp [aExec] at h
  | scope c _ => intro _ k r σ s a w h _; simp [aExec] at h
  | goto l => intro _ k r σ s a w h _; simp [aExec] at h
  | refuse why => intro _ k r σ s a w h _; simp [aExec] at h
end
end Go.Proofs.Ytfmfgomijjibgaa.Abs
end

section
namespace Go.Proofs.Ytfmfgomijjibgaa.Abs
open Go.RowKit

section
variable {G : Ctx} {fr : Fr} {σ : Nat → Value} {s : St} {a : Act} {w : World}

theorem has_mem : ∀ {l : List Nat} {i : Nat}, has l i = true ↔ i ∈ l
  | [], i => by simp [has]
  | j :: l, i => by
    rw [has, Bool.or_eq_true, has_mem, List.mem_cons]
    constructor
    · rintro (h | h)
      · exact .inl (Nat.eq_of_beq_eq_true h).symm
      · exact .inr h
    · rintro (h | h)
      · exact .inl (by rw [h]; exact Nat.beq_refl j)
      · exact .inr h
/-! ## The results as they are read -/
noncomputable def resB (G : Ctx) : List (ResultVar × Bool × Ty) → Bool
  | [] => true
  | (.tmp _, _, _) :: r => resB G r
  | (.cell _ ty, g, t) :: r => (match (tiOf G ty).ty with
    | some t' => decide (t' = t)
    | none => false) && ((tiOf G ty).agg == g) && resB G r
theorem loadV_spec (R : RelS fr σ s a w) (H : TIs fr.P G) {ty : TypeId} {g : Bool} {t : Ty} (ht : (tiOf G ty).ty = some t) (hg : (tiOf G ty).agg = g) {v v' : V} (h : loadV s.T g t v = some v') {u : Value} (hV : VR fr σ s.T w v u) :
    ∃ ad u', u = .pointer (some ad) ∧ (loadVar ty ad).run fr.P w = .ok u' w ∧ VR fr σ s.T w v' u' := by
  have plain : ∀ cs, cellsAt s.T v t.size = some cs → mkV g cs = some v' → ∃ ad u', u = .pointer (some ad) ∧ (loadVar ty ad).run fr.P w = .ok u' w ∧ VR fr σ s.T w v' u' := fun cs hc hm => by
    obtain ⟨hl, vs, hcs, ad, hu, hs, hcell⟩ := cellsAt_spec R hc hV
    subst hg
    obtain ⟨hv', h1⟩ := mkV_spec hm hcs
    exact ⟨ad, _, hu, run_loadVar_at (H ty t ht) hs (by rw [CRs.len hcs, hl]) hcell h1, hv'⟩
  unfold loadV at h
  split at h
  · rename_i id
    split at h
    · rename_i tt n u' xs m u2 hT
      rcases ble_of h with ⟨hb, h'⟩ | ⟨_, h'⟩
      case inr => cases h'
      cases h'
      simp only [Bool.and_eq_true, decide_eq_true_eq] at hb
      obtain ⟨⟨h1, rfl⟩, h3⟩ := hb
      have := Nat.eq_of_beq_eq_true h1
      subst this
      obtain ⟨o', a0, ho', ha, hs, hu⟩ := hV
      obtain ⟨gg, arr, hσ, _, hh, hc⟩ := R.objs id _ hT
      rw [hσ] at ha
      simp [addr] at ha
      subst ha
      have := run_loadVar_at (w := w) (H ty _ ht) (ad := ⟨gg, 0 + 0, none⟩) rfl (vs := arr.toList) hc.2.1 (fun j x hj => by
        rw [cell_of_row w gg _ arr tt (0, 0) hh]
        simpa using hj) (fun h => by rw [hg, h3] at h; cases h)
      rw [hg, h3] at this
      refine ⟨_, _, hu, this, arr, by simp [ofCells], hc⟩
    · split at h
      case h_2 => cases h
      rename_i cs hc
      exact plain cs hc h
  · split at h
    case h_2 => cases h
    rename_i cs hc
    exact plain cs hc h
noncomputable def resOne (a : Act) : ResultVar → Sem Value
  | .tmp t => pure (a.tmps.getD t Go.undef)
  | .cell p t => do loadVar t (← asAddr (a.tmps.getD p Go.undef))
theorem resVals_spec (R : RelS fr σ s a w) (H : TIs fr.P G) : ∀ {rs : List ResultVar} {outs : List (Bool × Ty)} {vs : List V}, rs.length = outs.length → resVals s (rs.zip outs) = some vs → resB G (rs.zip outs) = true →
    ∃ us, (rs.mapM (resOne a)).run fr.P w = .ok us w ∧ us.length = rs.length ∧ vs.length = us.length ∧ ∀ (i : Nat) v, vs[i]? = some v → ∃ u, us[i]? = some u ∧ VR fr σ s.T w v u
  | [], outs, vs, hl, h, _ => by
    cases outs with
    | cons _ _ => cases hl
    | nil =>
      cases h
      exact ⟨[], rfl, rfl, rfl, fun i v hi => by simp at hi⟩
  | rv :: rs, [], vs, hl, h, _ => by cases hl
  | rv :: rs, (g, t) :: outs, vs, hl, h, hb => by
    have fin : ∀ v u vs', resVals s (rs.zip outs) = some vs' → resB G (rs.zip outs) = true → vs = v :: vs' → VR fr σ s.T w v u → (resOne a rv).run fr.P w = .ok u w → ∃ us, ((rv :: rs).mapM (resOne a)).run fr.P w = .ok us w ∧ us.length = (rv :: rs).length ∧ vs.length = us.length ∧ ∀ (i : Nat) v, vs[i]? = some v → ∃ u, us[i]? = some u ∧ VR fr σ s.T w v u := fun v u vs' hvs hbb hv hV hrun => by
      subst hv
      obtain ⟨us, h1, h2, h3, h4⟩ := resVals_spec R H (rs := rs) (outs := outs) (by simpa using hl) hvs hbb
      refine ⟨u :: us, ?_, by simp [h2], by simp [h3], fun i v' hi => ?_⟩
      · rw [List.mapM_cons]
        simp only [Sem.run_bind, hrun, Result.andThen_ok, h1, Sem.run_pure]
      · cases i with
        | zero =>
          simp at hi
          subst hi
          exact ⟨u, rfl, hV⟩
        | succ i => simpa using h4 i v' (by simpa using hi)
    cases rv with
    | tmp i =>
      simp only [List.zip_cons_cons, resVals] at h
      split at h
      case h_2 => cases h
      rename_i v hv
      split at h
      case h_2 => cases h
      rename_i vs' hvs
      cases h
      exact fin v _ vs' hvs (by simpa [resB] using hb) rfl (R.envT hv) (by simp [resOne])
    | cell p ty =>
      simp only [List.zip_cons_cons, resVals] at h
      simp only [List.zip_cons_cons, resB, Bool.and_eq_true, beq_iff_eq] at hb
      obtain ⟨⟨hb1, hb2⟩, hb3⟩ := hb
      split at h
      case h_2 => cases h
      rename_i v hv
      split at h
      case h_2 => cases h
      rename_i u hu
      split at h
      case h_2 => cases h
      rename_i vs' hvs
      cases h
      have ht : (tiOf G ty).ty = some t := by
        split at hb1
        · rename_i t' ht'
          rw [ht']
          congr 1
          simpa using hb1
        · cases hb1
      obtain ⟨ad, u', hadr, hrun, hV⟩ := loadV_spec R H ht hb2 hu (R.envT hv)
      exact fin u u' vs' hvs hb3 rfl hV (by simp only [resOne, hadr, asAddr, Sem.run_bind, Sem.run_pure, Result.andThen_ok, hrun])

theorem ghostE_get : ∀ {e : Env} {i : Nat} {v : V}, get (ghostE e) i = some v → 1000000 ≤ i ∧ get e i = some v
  | [], _, _, h => by cases h
  | (j, y) :: e, i, v, h => by
    simp only [ghostE] at h
    rw [get_cons]
    cases hb : Nat.blt j 1000000 with
    | true =>
      rw [hb] at h
      simp only [cond_true] at h
      have hj := Nat.blt_eq.mp hb
      obtain ⟨h1, h2⟩ := ghostE_get h
      rw [if_neg (by omega)]
      exact ⟨h1, h2⟩
    | false =>
      rw [hb] at h
      simp only [cond_false, get_cons] at h
      split at h
      · rename_i e1
        rw [if_pos e1]
        refine ⟨?_, h⟩
        rcases Nat.lt_or_ge j 1000000 with h' | h'
        · rw [Nat.blt_eq.mpr h'] at hb; cases hb
        · omega
      · rename_i e1
        rw [if_neg e1]
        exact ghostE_get h
/-- Another act, other slots. -/
theorem RelS.react (R : RelS fr σ s a w) {n : Nat} {a' : Act} {e : Env} (hn : a'.tmps.size = n) (hs : n ≤ 1000000) (hd : a'.defers = []) (h : ∀ i v, get e i = some v → VR fr σ s.T w v (({ fr with n := n } : Fr).val a' i)) : RelS { fr with n := n } σ ⟨e, s.T⟩ a' w :=
  have m : Mv fr { fr with n := n } σ s.T w σ s.T w id (fun _ => true) id := .plain (fun _ _ hf => ⟨hf, rfl⟩) (fun _ o ho => ⟨o, ho, rfl, rfl⟩)
  ⟨⟨R.kept.os, R.kept.tape, R.kept.output, R.kept.size, R.kept.block, R.kept.fresh, R.kept.nmb⟩, R.fa, R.dist, fun id o ho => by
    have := m.or2 (R.objs id o ho) (j := id) rfl (fun _ _ h => h) (fun _ _ => rfl)
    rwa [mapO_id] at this, fun i v hi => by
    have := m.vr (h i v hi)
    rwa [mapV_id] at this, hn, hs, hd⟩
theorem retK_spec (R : RelS fr σ s a w) (H : TIs fr.P G) {fn : Func} {outs : List (Bool × Ty)} {d : Desc} (hl : fn.results.size = outs.length) (hsm : fn.results.size ≤ 1000000) (hb : resB G (fn.results.toList.zip outs) = true) {x : d.X} (h : retK fn.results.toList outs d s = some x) :
    ∃ us, (results fn a.tmps).run fr.P w = .ok (retV us) w ∧ us.length = fn.results.size ∧ ∃ σ', RelS { fr with n := us.length } σ' (unpack d x) ⟨us.toArray, []⟩ w := by
  unfold retK at h
  split at h
  case h_2 => cases h
  rename_i vs hvs
  have hrl : fn.results.toList.length = fn.results.size := Array.length_toList
  obtain ⟨us, hrun, hul, hvl, hV⟩ := resVals_spec R H (by omega) hvs hb
  have hmap : (results fn a.tmps).run fr.P w = .ok (retV us) w := by
    have e : results fn a.tmps = (do
        let vs ← fn.results.mapM (resOne a)
        pure (if h : vs.size = 1 then vs[0] else .tuple vs)) := by
      unfold results
      congr 1
    rw [e, Array.mapM_eq_mapM_toList]
    simp only [Sem.run_bind, Sem.run_map, hrun, Result.andThen_ok, Sem.run_pure]
    congr 1
    cases us with
    | nil => rfl
    | cons u us =>
      cases us with
      | nil => rfl
      | cons v us => simp [retV]
  have R1 : RelS { fr with n := us.length } σ ⟨argE 0 vs ++ ghostE s.env, s.T⟩ ⟨us.toArray, []⟩ w := R.react (by simp) (by omega) rfl fun i v hi => by
    rcases get_app hi with hi | ⟨_, hi⟩
    · obtain ⟨_, hi'⟩ := argE_get hi
      rw [Nat.sub_zero] at hi'
      obtain ⟨u, hu, hv⟩ := hV i v hi'
      have hlt := (List.getElem?_eq_some_iff.1 hi').1
      have : ({ fr with n := us.length } : Fr).val ⟨us.toArray, []⟩ i = u := by
        unfold Fr.val
        rw [if_pos (by omega), Array.getD_eq_getD_getElem?]
        simp [hu]
      rw [this]
      exact hv
    · obtain ⟨h1, h2⟩ := ghostE_get hi
      have := R.env i v h2
      unfold Fr.val at this ⊢
      rw [if_neg (by omega)] at this ⊢
      exact this
  obtain ⟨σ', R2⟩ := R1.enter h
  exact ⟨us, hmap, by omega, σ', R2⟩

theorem fn_ok {P : Program} {g : FuncId} {fn : Func} {c : Code} {F : Fn} {G : Ctx} {L : Seams F.dout.X} {calm : Array Oper → Option (List Nat × Nat)}
    (hf : P.funcs[g]? = some fn) (hb : fn.body = some c) (hname : (fn.name == "runtime.NumGoroutine") = false) (H : TIs P G) (HC : ∀ f F', get G.calls f = some F' → CallOk P f F') (hn : G.n = fn.ntmps) (hcalm : ∀ fr : Fr, fr.P = P → fr.n = G.n → CalmOk fr G calm)
    (hi : (Nat.ble (cntB F.din.slots) fn.ntmps && Nat.ble fn.ntmps 1000000 && Nat.ble fn.results.size 1000000 && Nat.beq fn.results.size F.outs.length && Nat.beq fn.results.size (cntB F.dout.slots) && resB G (fn.results.toList.zip F.outs) && numB 0 F.dout.slots && closed F.dout) = true)
    (hgood : Good G L calm (retK fn.results.toList F.outs F.dout) c) (hrun : (fun a => aBody G calm fn F L a) = F.run) : CallOk P g F := by
  simp only [Bool.and_eq_true] at hi
  obtain ⟨⟨⟨⟨⟨⟨⟨i1, i2⟩, i3⟩, i4⟩, i5⟩, i6⟩, i7⟩, i8⟩ := hi
  have i1 := Nat.le_of_ble_eq_true i1
  have i2 := Nat.le_of_ble_eq_true i2
  have i3 := Nat.le_of_ble_eq_true i3
  have i4 := Nat.eq_of_beq_eq_true i4
  have i5 := Nat.eq_of_beq_eq_true i5
  refine ⟨fun args w => ?_, ⟨i7, i8⟩, fun x r hr fr σ us hP hnu hcnt R => ?_⟩
  · simp [callFunc, hf, hb]
    simpa using hname
  · subst hP
    rw [← hrun] at hr
    simp only [aBody, hb] at hr
    have R1 : RelS { fr with n := fn.ntmps } σ (unpack F.din x) { tmps := us.toArray ++ Array.replicate (fn.ntmps - us.toArray.size) Go.undef, defers := [] } fr.w0 := R.react (e := (unpack F.din x).env) (by
      simp only [Array.size_append, Array.size_replicate, List.size_toArray]
      omega) i2 rfl fun i v hi => by
      have := R.env i v hi
      have e : ({ fr with n := fn.ntmps } : Fr).val { tmps := us.toArray ++ Array.replicate (fn.ntmps - us.toArray.size) Go.undef, defers := [] } i = fr.val ⟨us.toArray, []⟩ i := by
        unfold Fr.val
        split
        · rw [Array.getD_eq_getD_getElem?, Array.getD_eq_getD_getElem?, Array.getElem?_append]
          split
          · rfl
          · rename_i hlt
            rw [Array.getElem?_replicate]
            rw [Array.getElem?_eq_none (show us.toArray.size ≤ i by omega)]
            split <;> rfl
        · rfl
      rw [e]
      exact this
    refine calls_of_wp hf hb (wp_mono (aExec_sound (fr := { fr with n := fn.ntmps }) H HC hn (hcalm _ rfl hn.symm) c hgood _ r _ _ _ fr.w0 hr R1) fun e a' w' hq => ?_)
    have fin : ∀ σ s, RelS { fr with n := fn.ntmps } σ s a' w' → retK fn.results.toList F.outs F.dout s = some r → a'.defers = [] ∧ ∃ v, (results fn a'.tmps).run fr.P w' = .ok v w' ∧ ∃ σ' us', v = retV us' ∧ us'.length = cntB F.dout.slots ∧ RelS { fr with n := us'.length } σ' (unpack F.dout r) ⟨us'.toArray, []⟩ w' := fun σ s R' hk => by
      obtain ⟨us', h1, h2, σ', h3⟩ := retK_spec (fr := { fr with n := fn.ntmps }) R' H i4 i3 i6 hk
      exact ⟨R'.defers, _, h1, σ', us', rfl, by omega, h3⟩
    cases e with
    | normal =>
      obtain ⟨σ, s, R', hk⟩ := hq
      exact fin σ s R' hk
    | ret =>
      obtain ⟨σ, s, R', hk⟩ := hq
      exact fin σ s R' hk
    | exit i =>
      obtain ⟨σ, s, R', hk⟩ := hq
      cases hk
    | goto l => exact hq.elim
    | panic ch => exact hq.elim
    | outgrown => exact hq.elim
end
end Go.Proofs.Ytfmfgomijjibgaa.Abs
end

section
namespace Go.Proofs.Ytfmfgomijjibgaa.Abs
open Go.RowKit

section
variable {ρ : Type} (G : Ctx) (L : Seams ρ) (calm : Array Oper → Option (List Nat × Nat)) (ret : St → Option ρ)
def LoopOk (j : Seam ρ) (c : Code) : Prop := ∀ z k r, j.J z k = some r → ∃ n, loopN j.d (aExec G L calm ret c) n z k = some r
def RestOk (j : Seam ρ) (c : Code) : Prop := ∀ z k r, j.J z k = some r → aExec G L calm ret c (unpack j.d z) (seamK j.e k) = some r
noncomputable def loopsIn (l : List Nat) : Code → List (Nat × Code)
  | .seq x y => loopsIn l x ++ loopsIn l y
  | .cond _ x y => loopsIn l x ++ loopsIn l y
  | .block _ c => loopsIn l c
  | .loop c => (bif has l (firstId c) then [(firstId c, c)] else []) ++ loopsIn l c
  | _ => []
noncomputable def restsIn (l : List Nat) : Code → List (Nat × Code)
  | .seq x y => (bif has l (firstId y) then [(firstId y, y)] else []) ++ (restsIn l x ++ restsIn l y)
  | .cond _ x y => restsIn l x ++ restsIn l y
  | .block _ c => restsIn l c
  | .loop c => restsIn l c
  | _ => []
def AllL : List (Nat × Code) → Prop
  | [] => True
  | (k, c) :: r => (∀ j, get L.loops k = some j → LoopOk G L calm ret j c) ∧ AllL r
def AllR : List (Nat × Code) → Prop
  | [] => True
  | (k, c) :: r => (∀ j, get L.joins k = some j → RestOk G L calm ret j c) ∧ AllR r
theorem AllL.mem : ∀ {l : List (Nat × Code)}, AllL G L calm ret l → ∀ k c, (k, c) ∈ l → ∀ j, get L.loops k = some j → LoopOk G L calm ret j c
  | (k', c') :: r, h, k, c, hm => by
    cases hm with
    | head => exact h.1
    | tail _ hm => exact AllL.mem h.2 k c hm
theorem AllR.mem : ∀ {l : List (Nat × Code)}, AllR G L calm ret l → ∀ k c, (k, c) ∈ l → ∀ j, get L.joins k = some j → RestOk G L calm ret j c
  | (k', c') :: r, h, k, c, hm => by
    cases hm with
    | head => exact h.1
    | tail _ hm => exact AllR.mem h.2 k c hm
theorem get_has {α : Type} : ∀ {l : List (Nat × α)} {k : Nat} {x : α}, get l k = some x → has (l.map (·.1)) k = true
  | [], _, _, h => by cases h
  | (i, y) :: r, k, x, h => by
    rw [get_cons] at h
    rw [List.map_cons, has_mem, List.mem_cons]
    split at h
    · rename_i e
      exact .inl e.symm
    · exact .inr (has_mem.1 (get_has h))
theorem good_of {c : Code} (hl : ∀ k c', (k, c') ∈ loopsIn (L.loops.map (·.1)) c → ∀ j, get L.loops k = some j → LoopOk G L calm ret j c') (hr : ∀ k c', (k, c') ∈ restsIn (L.joins.map (·.1)) c → ∀ j, get L.joins k = some j → RestOk G L calm ret j c') : Good G L calm ret c := by
  induction c with
  | seq x y ihx ihy =>
    refine ⟨ihx (fun k c h => hl k c (List.mem_append_left _ h)) (fun k c h => hr k c (List.mem_append_right _ (List.mem_append_left _ h))), ihy (fun k c h => hl k c (List.mem_append_right _ h)) (fun k c h => hr k c (List.mem_append_right _ (List.mem_append_right _ h))), fun j hj => ?_⟩
    refine hr (firstId y) y (List.mem_append_left _ ?_) j hj
    rw [get_has hj]
    exact List.mem_cons_self
  | cond c x y ihx ihy => exact ⟨ihx (fun k c h => hl k c (List.mem_append_left _ h)) (fun k c h => hr k c (List.mem_append_left _ h)), ihy (fun k c h => hl k c (List.mem_append_right _ h)) (fun k c h => hr k c (List.mem_append_right _ h))⟩
  | block id c ih => exact ih hl hr
  | loop c ih =>
    refine ⟨ih (fun k c h => hl k c (List.mem_append_right _ h)) hr, fun j hj => ?_⟩
    refine hl (firstId c) c (List.mem_append_left _ ?_) j hj
    rw [get_has hj]
    exact List.mem_cons_self
  | _ => exact trivial
theorem good_by {c : Code} {ll rl : List (Nat × Code)} (h1 : loopsIn (L.loops.map (·.1)) c = ll) (h2 : restsIn (L.joins.map (·.1)) c = rl) (hl : AllL G L calm ret ll) (hr : AllR G L calm ret rl) : Good G L calm ret c :=
  good_of G L calm ret (by rw [h1]; exact hl.mem) (by rw [h2]; exact hr.mem)
end
def AllC (P : Program) : List (Nat × Fn) → Prop
  | [] => True
  | (f, F) :: r => CallOk P f F ∧ AllC P r
theorem AllC.get {P : Program} : ∀ {l : List (Nat × Fn)}, AllC P l → ∀ f F, Go.Proofs.Ytfmfgomijjibgaa.Abs.get l f = some F → CallOk P f F
  | [], _, _, _, h => by cases h
  | (g, F') :: r, h, f, F, hg => by
    rw [get_cons] at hg
    split at hg
    · rename_i e
      cases hg
      subst e
      exact h.1
    · exact AllC.get h.2 f F hg
theorem seam_eq {ρ : Type} {l : List (Nat × Seam ρ)} {k : Nat} {S : Seam ρ} {p : Seam ρ → Prop} (h : get l k = some S) (hp : p S) : ∀ j, get l k = some j → p j := fun j hj => by
  rw [h] at hj
  cases hj
  exact hp
end Go.Proofs.Ytfmfgomijjibgaa.Abs
end

section
namespace Go.Proofs.Ytfmfgomijjibgaa.Abs
open Go.RowKit

/-! ## Operations that leave the rows as they are: their value depends on their operands alone -/
section
variable {ρ : Type} {G : Ctx} {r : ρ}
/-- x is a value: given any way on, it goes on with it. -/
def Is {α : Type} (f : (ρ : Type) → (α → Option ρ) → Option ρ) (c : α) : Prop := ∀ (ρ : Type) (K : α → Option ρ), f ρ K = K c

theorem intBin_is {op : BinOp} {k : IntKind} {x y : Int} {K : C → Option ρ} (h : intBin op k x y K = some r) : ∃ c, K c = some r ∧ Is (fun _ K => intBin op k x y K) c := by
  cases op <;> simp only [intBin] at h
  case quo =>
    split at h
    · cases h
    · rename_i hy
      exact ⟨_, h, fun _ K => by simp only [intBin, if_neg hy]⟩
  case rem =>
    split at h
    · cases h
    · rename_i hy
      exact ⟨_, h, fun _ K => by simp only [intBin, if_neg hy]⟩
  all_goals first | cases h; done | exact ⟨_, h, fun _ K => rfl⟩
theorem strBin_is {op : BinOp} {x y : List UInt8} {K : C → Option ρ} (h : strBin op x y K = some r) : ∃ c, K c = some r ∧ Is (fun _ K => strBin op x y K) c := by
  cases op <;> simp only [strBin] at h
  case add =>
    split at h
    · rename_i hl
      exact ⟨_, h, fun _ K => by simp only [strBin, if_pos hl]⟩
    · cases h
  all_goals first | cases h; done | exact ⟨_, h, fun _ K => rfl⟩
theorem binV_is {bt : Bool} {ft : Option (List Ty)} {ak : Option (Nat × IntKind)} {op : BinOp} {x y : V} {K : C → Option ρ} (h : binV bt ft ak op x y K = some r) : ∃ c, K c = some r ∧ Is (fun _ K => binV bt ft ak op x y K) c := by
  unfold binV at h
  split at h
  · rename_i k m k' n
    split at h
    · split at h
      · cases h
      · rename_i hn
        exact ⟨_, h, fun _ K => by simp only [binV, if_neg hn]⟩
    · split at h
      · cases h
      · rename_i hn
        exact ⟨_, h, fun _ K => by simp only [binV, if_neg hn]⟩
    · rename_i h1 h2
      split at h
      · rename_i e
        obtain ⟨c, hc, hi⟩ := intBin_is h
        refine ⟨c, hc, fun ρ' K' => ?_⟩
        have := hi ρ' K'
        cases op <;> first | exact absurd rfl h1 | exact absurd rfl h2 | (simp only [binV, if_pos e]; exact this)
      · cases h
  · obtain ⟨c, hc, hi⟩ := strBin_is h
    exact ⟨c, hc, fun ρ' K' => hi ρ' K'⟩
  · split at h
    case h_1 => cases h
    rename_i l
    rcases ble_of h with ⟨hb, h'⟩ | ⟨_, h'⟩
    case inr => cases h'
    split at h'
    case h_1 => cases h'
    rename_i b hbb
    cases op <;> simp only [] at h' <;> try cases h'
    · exact ⟨_, h', fun _ K => by simp only [binV, hb, cond_true, hbb]⟩
    · exact ⟨_, h', fun _ K => by simp only [binV, hb, cond_true, hbb]⟩
  · split at h
    case h_1 => cases h
    rcases ble_of h with ⟨hb, h'⟩ | ⟨_, h'⟩
    case inr => cases h'
    cases op <;> simp only [] at h' <;> try cases h'
    · exact ⟨_, h', fun _ K => by simp only [binV, hb, cond_true]⟩
    · exact ⟨_, h', fun _ K => by simp only [binV, hb, cond_true]⟩
  · rcases ble_of h with ⟨hb, h'⟩ | ⟨_, h'⟩
    · subst hb
      split at h'
      · exact ⟨_, h', fun _ K => rfl⟩
      · exact ⟨_, h', fun _ K => rfl⟩
      · cases h'
    · cases h'
  · cases h
theorem cutV_is {T : Tab} {z : Option Nat} {x : V} {lo hi : Option Int} {K : C → Option ρ} (h : cutV T z x lo hi K = some r) : ∃ c, K c = some r ∧ Is (fun _ K => cutV T z x lo hi K) c := by
  unfold cutV at h
  split at h
  · rcases ble_of h with ⟨_, h'⟩ | ⟨hz, h'⟩
    · cases h'
    · split at h'
      · exact ⟨_, h', fun _ K => by simp only [cutV, hz, cond_false]⟩
      all_goals
        split at h'
        · rename_i hb
          exact ⟨_, h', fun _ K => by simp only [cutV, hz, cond_false, if_pos hb]⟩
        · cases h'
  · split at h
    · exact ⟨_, h, fun _ K => rfl⟩
    all_goals
      split at h
      · rename_i hb
        exact ⟨_, h, fun _ K => by simp only [cutV, if_pos hb]⟩
      · cases h
  · split at h
    · cases h
    · rename_i n hn
      split at h
      · exact ⟨_, h, fun _ K => by simp only [cutV, hn]⟩
      all_goals
        split at h
        · rename_i hb
          exact ⟨_, h, fun _ K => by simp only [cutV, hn, if_pos hb]⟩
        · cases h
  · split at h
    · cases h
    · rename_i n hn
      split at h
      · exact ⟨_, h, fun _ K => by simp only [cutV, hn]⟩
      all_goals
        split at h
        · rename_i hb
          exact ⟨_, h, fun _ K => by simp only [cutV, hn, if_pos hb]⟩
        · cases h
  · rcases ble_of h with ⟨_, h'⟩ | ⟨hz, h'⟩
    · cases h'
    · split at h'
      · exact ⟨_, h', fun _ K => by simp only [cutV, hz, cond_false]⟩
      · cases h'
  · cases h
theorem idxAddr_is {T : Tab} {z : Option Nat} {x : V} {i : Int} {K : V → Option ρ} (h : idxAddr T z x i K = some r) : ∃ c, K c = some r ∧ Is (fun _ K => idxAddr T z x i K) c := by
  unfold idxAddr at h
  split at h
  · rcases ble_of h with ⟨_, h'⟩ | ⟨hz, h'⟩
    · cases h'
    · split at h'
      · rename_i hb
        exact ⟨_, h', fun _ K => by simp only [idxAddr, hz, cond_false, if_pos hb]⟩
      · cases h'
  · split at h
    case h_2 => cases h
    rename_i n hn
    split at h
    · rename_i hb
      exact ⟨_, h, fun _ K => by simp only [idxAddr, hn, if_pos hb]⟩
    · cases h
  · split at h
    case h_2 => cases h
    rename_i n hn
    split at h
    · rename_i hb
      exact ⟨_, h, fun _ K => by simp only [idxAddr, hn, if_pos hb]⟩
    · cases h
  · split at h
    case h_2 => cases h
    rename_i hT
    rcases ble_of h with ⟨_, h'⟩ | ⟨hz, h'⟩
    · cases h'
    · split at h'
      · rename_i hb
        exact ⟨_, h', fun _ K => by simp only [idxAddr, hT, hz, cond_false, if_pos hb]⟩
      · cases h'
  · cases h
end
end Go.Proofs.Ytfmfgomijjibgaa.Abs
end

section
namespace Go.Proofs.Ytfmfgomijjibgaa.Abs
open Go.RowKit

section
variable {ρ : Type} {G : Ctx} {r : ρ}
/-! ## The same operands, the same objects behind them -/
structure Like (o : Oper) (s s' : St) : Prop where
  ev : ∀ x ∈ o.op.operands, ev s' x = ev s x
  ids : ∀ id ∈ opIds s o.op.operands.toList, get s'.T id = get s.T id
theorem opIds_mem {s : St} : ∀ {l : List Operand} {x : Operand} {v : V} {id : Nat}, x ∈ l → ev s x = some v → id ∈ vIds v → id ∈ opIds s l
  | y :: l, x, v, id, hx, hv, hi => by
    simp only [opIds]
    cases hx with
    | head => rw [hv]; exact List.mem_append_left _ hi
    | tail _ hx =>
      have := opIds_mem hx hv hi
      split
      · exact List.mem_append_right _ this
      · exact this
theorem Like.at {o : Oper} {s s' : St} (h : Like o s s') {x : Operand} {v : V} (hx : x ∈ o.op.operands) (hv : Go.Proofs.Ytfmfgomijjibgaa.Abs.ev s x = some v) : ∀ id ∈ vIds v, get s'.T id = get s.T id := fun id hi => h.ids id (opIds_mem (by simpa using hx) hv hi)
theorem Like.evC {o : Oper} {s s' : St} (h : Like o s s') {x : Operand} (hx : x ∈ o.op.operands) : evC s' x = evC s x := by
  unfold Go.Proofs.Ytfmfgomijjibgaa.Abs.evC
  rw [h.ev x hx]
theorem Like.evI {o : Oper} {s s' : St} (h : Like o s s') {x : Operand} (hx : x ∈ o.op.operands) : evI s' x = evI s x := by
  unfold Go.Proofs.Ytfmfgomijjibgaa.Abs.evI
  rw [h.ev x hx]
theorem Like.evO {o : Oper} {s s' : St} (h : Like o s s') {x : Option Operand} (hx : ∀ y, x = some y → y ∈ o.op.operands) : evO s' x = evO s x := by
  cases x with
  | none => rfl
  | some y =>
    simp only [Go.Proofs.Ytfmfgomijjibgaa.Abs.evO]
    rw [h.evI (hx y rfl)]
theorem Like.evAll {s s' : St} : ∀ {l : List Operand}, (∀ x ∈ l, Go.Proofs.Ytfmfgomijjibgaa.Abs.ev s' x = Go.Proofs.Ytfmfgomijjibgaa.Abs.ev s x) → evAll s' l = evAll s l
  | [], _ => rfl
  | x :: l, h => by
    simp only [Go.Proofs.Ytfmfgomijjibgaa.Abs.evAll]
    rw [h x List.mem_cons_self, Like.evAll fun y hy => h y (List.mem_cons_of_mem _ hy)]
theorem evC_some {s : St} {x : Operand} {c : C} (h : evC s x = some c) : ev s x = some (.c c) := by
  unfold evC at h
  split at h
  · rename_i hv; cases h; exact hv
  · cases h

section
variable {T T' : Tab}
theorem cont_like {t : Ty} {c : C} (h : ∀ id ∈ idsOf [c], get T' id = get T id) : cont T' t c = cont T t c := by
  cases c with
  | own id => simp only [cont]; rw [h id (by simp [idsOf])]
  | view id lo len => simp only [cont]; rw [h id (by simp [idsOf])]
  | _ => rfl
theorem lenC_like {c : C} (h : ∀ id ∈ idsOf [c], get T' id = get T id) : lenC T' c = lenC T c := by
  cases c with
  | own id => simp only [lenC]; rw [h id (by simp [idsOf])]
  | _ => rfl
theorem lenO_like {z : Option Nat} {id : Nat} (h : get T' id = get T id) : lenO T' z id = lenO T z id := by unfold lenO; rw [h]
theorem cutV_like {z : Option Nat} {x : V} {lo hi : Option Int} {K : C → Option ρ} (h : ∀ id ∈ vIds x, get T' id = get T id) : cutV T' z x lo hi K = cutV T z x lo hi K := by
  cases x with
  | c y =>
    cases y with
    | own id => simp only [cutV]; rw [lenO_like (h id (by simp [vIds, idsOf]))]
    | view id a n => simp only [cutV]; rw [lenO_like (h id (by simp [vIds, idsOf]))]
    | _ => rfl
  | _ => rfl
theorem idxAddr_like {z : Option Nat} {x : V} {i : Int} {K : V → Option ρ} (h : ∀ id ∈ vIds x, get T' id = get T id) : idxAddr T' z x i K = idxAddr T z x i K := by
  cases x with
  | c y =>
    cases y with
    | own id => simp only [idxAddr]; rw [lenO_like (h id (by simp [vIds, idsOf]))]
    | view id a n => simp only [idxAddr]; rw [lenO_like (h id (by simp [vIds, idsOf]))]
    | _ => rfl
  | pt id off =>
    have := h id (by simp [vIds])
    cases off with
    | zero => simp only [idxAddr]; rw [this]
    | succ n => rfl
  | _ => rfl
theorem cellsAt_like {x : V} {n : Nat} (h : ∀ id ∈ vIds x, get T' id = get T id) : cellsAt T' x n = cellsAt T x n := by
  cases x with
  | pt id off => simp only [cellsAt]; rw [h id (by simp [vIds])]
  | oa id i off => simp only [cellsAt]; rw [h id (by simp [vIds])]
  | _ => rfl
theorem arrOk_like {s s' : St} {t : TypeId} {x : V} (h : ∀ id ∈ vIds x, get s'.T id = get s.T id) : arrOk G s' t x = arrOk G s t x := by
  cases x with
  | pt id off => simp only [arrOk]; rw [h id (by simp [vIds])]
  | _ => rfl
theorem alOf_like : ∀ {cs : List C}, (∀ id ∈ idsOf cs, get T' id = get T id) → alOf T' cs = alOf T cs
  | [], _ => rfl
  | c :: cs, h => by
    cases c with
    | own id => simp only [alOf]; rw [h id (by simp [idsOf]), alOf_like fun i hi => h i (by simp only [idsOf, List.mem_cons]; exact .inr hi)]
    | view id lo len => simp only [alOf]; rw [h id (by simp [idsOf]), alOf_like fun i hi => h i (by simp only [idsOf, List.mem_cons]; exact .inr hi)]
    | sl al t xs => simp only [alOf]; rw [alOf_like fun i hi => h i (by simpa [idsOf] using hi)]
    | _ => simp only [alOf]; exact alOf_like fun i hi => h i (by simpa [idsOf] using hi)
theorem readC_like {c : C} (h : ∀ id ∈ idsOf [c], get T' id = get T id) : readC T' [] c = readC T [] c := by
  cases c with
  | own id => simp only [readC]; rw [h id (by simp [idsOf])]
  | view id lo len => simp only [readC]; rw [h id (by simp [idsOf])]
  | _ => rfl
theorem readCs_like : ∀ {cs : List C}, (∀ id ∈ idsOf cs, get T' id = get T id) → readCs T' [] cs = readCs T [] cs
  | [], _ => rfl
  | c :: cs, h => by
    simp only [readCs]
    rw [readC_like fun i hi => h i (idsOf_mem List.mem_cons_self hi), readCs_like fun i hi => h i (by cases c <;> simp only [idsOf, List.mem_cons] <;> first | exact .inr hi | exact hi)]
theorem readV_like {v : V} (h : ∀ id ∈ vIds v, get T' id = get T id) : readV T' [] v = readV T [] v := by
  cases v with
  | c x => simp only [readV]; rw [readC_like h]
  | agg cs => simp only [readV]; rw [readCs_like h]
  | _ => rfl
theorem readE_like : ∀ {vs : List V} {n : Nat}, (∀ v ∈ vs, ∀ id ∈ vIds v, get T' id = get T id) → readE T' [] (argE n vs) = readE T [] (argE n vs)
  | [], _, _ => rfl
  | v :: vs, n, h => by
    simp only [argE, readE]
    rw [readV_like (h v List.mem_cons_self), readE_like fun u hu => h u (List.mem_cons_of_mem _ hu)]
theorem idsOf_app2 : ∀ {cs ds : List C} {i : Nat}, i ∈ idsOf (cs ++ ds) → i ∈ idsOf cs ∨ i ∈ idsOf ds
  | [], _, _, h => .inr h
  | c :: cs, ds, i, h => by
    cases c <;> simp only [List.cons_append, idsOf, List.mem_cons] at h ⊢
    case own => rcases h with h | h; exact .inl (.inl h); exact (idsOf_app2 h).imp .inr id
    case view => rcases h with h | h; exact .inl (.inl h); exact (idsOf_app2 h).imp .inr id
    all_goals exact idsOf_app2 h
theorem argCells_ids : ∀ {vs : List V} {id : Nat}, id ∈ idsOf (argCells vs) → ∃ v ∈ vs, id ∈ vIds v
  | [], _, h => by cases h
  | v :: vs, id, h => by
    have later : id ∈ idsOf (argCells vs) → ∃ u ∈ v :: vs, id ∈ vIds u := fun h => by
      obtain ⟨u, hu, hi⟩ := argCells_ids h
      exact ⟨u, List.mem_cons_of_mem _ hu, hi⟩
    cases v with
    | c x =>
      rcases idsOf_app2 (cs := [x]) (ds := argCells vs) h with h | h
      · exact ⟨_, List.mem_cons_self, h⟩
      · exact later h
    | agg cs =>
      rcases idsOf_app2 (cs := cs) (ds := argCells vs) h with h | h
      · exact ⟨_, List.mem_cons_self, h⟩
      · exact later h
    | _ => exact later h
end
theorem evAll_mem {s : St} : ∀ {l : List Operand} {vs : List V}, evAll s l = some vs → ∀ v ∈ vs, ∃ x ∈ l, ev s x = some v
  | [], vs, h, v, hv => by cases h; cases hv
  | x :: l, vs, h, v, hv => by
    simp only [evAll] at h
    split at h
    case h_2 => cases h
    rename_i u hu
    split at h
    case h_2 => cases h
    rename_i us hus
    cases h
    cases hv with
    | head => exact ⟨x, List.mem_cons_self, hu⟩
    | tail _ hv =>
      obtain ⟨y, hy, h2⟩ := evAll_mem hus v hv
      exact ⟨y, List.mem_cons_of_mem _ hy, h2⟩

theorem minmax_is {mx : Bool} {s : St} {k : IntKind} : ∀ {vs : List V} {x : Int} {K : V → St → Option ρ}, minmax mx s k x vs K = some r → ∃ v, K v s = some r ∧ ∀ (ρ' : Type) (s' : St) (K' : V → St → Option ρ'), minmax mx s' k x vs K' = K' v s'
  | [], x, K, h => ⟨_, h, fun _ _ _ => rfl⟩
  | v :: vs, x, K, h => by
    cases v with
    | c y =>
      cases y with
      | int k' b =>
        simp only [minmax] at h
        split at h
        case isFalse => cases h
        rename_i hk
        obtain ⟨v, hv, hi⟩ := minmax_is h
        exact ⟨v, hv, fun ρ' s' K' => by simp only [minmax, if_pos hk]; exact hi ρ' s' K'⟩
      | _ => simp [minmax] at h
    | _ => simp [minmax] at h
theorem lenK_is {s s' : St} {t : TypeId} {x : V} (hT : ∀ id ∈ vIds x, get s'.T id = get s.T id) {K : V → St → Option ρ} (h : lenK G s t x K = some r) : ∃ v, K v s = some r ∧ ∀ (ρ' : Type) (K' : V → St → Option ρ'), lenK G s' t x K' = K' v s' := by
  unfold lenK at h
  split at h
  · rcases ble_of h with ⟨hb, h'⟩ | ⟨_, h'⟩
    · exact ⟨_, h', fun _ K' => by simp only [lenK, hb, cond_true]⟩
    · cases h'
  · rename_i c hno
    split at h
    case h_2 => cases h
    rename_i n hn
    rcases ble_of h with ⟨hb, h'⟩ | ⟨_, h'⟩
    · refine ⟨_, h', fun _ K' => ?_⟩
      unfold lenK
      split
      · rename_i heq; exact absurd heq (by simpa using hno _)
      · rename_i heq
        cases heq
        rw [lenC_like (T := s.T) hT, hn]
        simp only [hb, cond_true]
      · rename_i heq; cases heq
      · first | (rename_i x; exact (x _ rfl).elim) | (rename_i x _; exact (x _ rfl).elim) | (rename_i x _ _; exact (x _ rfl).elim)
    · cases h'
  · split at h
    case h_2 => cases h
    rename_i hE
    rcases ble_of h with ⟨hb, h'⟩ | ⟨_, h'⟩
    · exact ⟨_, h', fun _ K' => by simp only [lenK, hE, hb, cond_true]⟩
    · cases h'
  · cases h
theorem builtinK_is {s s' : St} {d : Nat} {b : Builtin} {at_ : List TypeId} {vs : List V} (hb : b = .len ∨ b = .min ∨ b = .max) (hT : ∀ v ∈ vs, ∀ id ∈ vIds v, get s'.T id = get s.T id) {K : V → St → Option ρ} (h : builtinK G s d b at_ vs K = some r) : ∃ v, K v s = some r ∧ ∀ (ρ' : Type) (K' : V → St → Option ρ'), builtinK G s' d b at_ vs K' = K' v s' := by
  unfold builtinK at h
  split at h
  · split at h
    · obtain ⟨v, hv, hi⟩ := lenK_is (s' := s') (hT _ List.mem_cons_self) h
      exact ⟨v, hv, fun ρ' K' => hi ρ' K'⟩
    · cases h
  · obtain ⟨v, hv, hi⟩ := minmax_is h
    exact ⟨v, hv, fun ρ' K' => hi ρ' s' K'⟩
  · obtain ⟨v, hv, hi⟩ := minmax_is h
    exact ⟨v, hv, fun ρ' K' => hi ρ' s' K'⟩
  · rcases hb with h | h | h <;> cases h
  · cases h
theorem buildC_like {s s' : St} {fs : List (Nat × Nat × Bool)} : ∀ {l : List (Nat × Operand)} {cs : List C}, (∀ p ∈ l, ev s' p.2 = ev s p.2) → opK.buildC s' fs cs l = opK.buildC s fs cs l
  | [], _, _ => rfl
  | (i, x) :: l, cs, h => by
    have ih : ∀ cs, opK.buildC s' fs cs l = opK.buildC s fs cs l := fun cs => buildC_like fun p hp => h p (List.mem_cons_of_mem _ hp)
    have hx : ev s' x = ev s x := h (i, x) List.mem_cons_self
    simp only [opK.buildC, ih, hx]
theorem opK_neutral {o : Oper} {s s' : St} {K : V → St → Option ρ} (hn : pureOp o = true) (hl : Like o s s') (h : opK G o s K = some r) : ∃ v, K v s = some r ∧ ∀ (ρ' : Type) (K' : V → St → Option ρ'), opK G o s' K' = K' v s' := by
  obtain ⟨dst, op, type, pos, aft, gd⟩ := o
  have hev := hl.ev
  unfold pureOp at hn
  cases op <;> simp only [] at hn <;> try cases hn
  case move x =>
    have e := hev x (by simp [Op.operands])
    simp only [opK] at h
    split at h
    case h_2 => cases h
    rename_i v hv
    exact ⟨v, h, fun _ K' => by simp only [opK, e, hv]⟩
  case assign x =>
    have e := hev x (by simp [Op.operands])
    simp only [opK] at h
    split at h
    case h_2 => cases h
    rename_i v hv
    exact ⟨v, h, fun _ K' => by simp only [opK, e, hv]⟩
  case nilCheck x =>
    have e := hev x (by simp [Op.operands])
    simp only [opK] at h
    split at h
    · rename_i hv; exact ⟨_, h, fun _ K' => by simp only [opK, e, hv]⟩
    · rename_i hv; exact ⟨_, h, fun _ K' => by simp only [opK, e, hv]⟩
    · cases h
  case binOp op t x y t' =>
    have e1 := hev x (by simp [Op.operands])
    have e2 := hev y (by simp [Op.operands])
    simp only [opK] at h
    split at h
    case h_2 => cases h
    rename_i v hv
    split at h
    case h_2 => cases h
    rename_i v' hv'
    obtain ⟨c, hc, hi⟩ := binV_is h
    exact ⟨.c c, hc, fun _ K' => by simp only [opK, e1, hv, e2, hv']; exact hi _ _⟩
  case pick c x y =>
    have e0 := hl.evC (x := c) (by simp [Op.operands])
    have e1 := hev x (by simp [Op.operands])
    have e2 := hev y (by simp [Op.operands])
    simp only [opK] at h
    split at h
    case h_2 => cases h
    rename_i b hc
    generalize hx : ev s x = px at h
    generalize hy : ev s y = py at h
    rw [hc] at e0
    rw [hx] at e1
    rw [hy] at e2
    split at h
    · exact ⟨_, h, fun _ K' => by simp only [opK, e0, e1, e2]⟩
    · rename_i hno
      refine ⟨_, h, fun _ K' => ?_⟩
      simp only [opK, e0, e1, e2]
    · rename_i hno
      refine ⟨_, h, fun _ K' => ?_⟩
      simp only [opK, e0, e1, e2]
    · cases h
  case unOp op t x =>
    have e := hl.evC (x := x) (by simp [Op.operands])
    simp only [opK] at h
    split at h
    · rename_i b hb
      rw [hb] at e
      cases op <;> simp only [] at h <;> try cases h
      exact ⟨_, h, fun _ K' => by simp only [opK, e]⟩
    · rename_i k n hb
      rw [hb] at e
      cases op <;> simp only [] at h <;> try cases h
      · exact ⟨_, h, fun _ K' => by simp only [opK, e]⟩
      · exact ⟨_, h, fun _ K' => by simp only [opK, e]⟩
    · cases h
  case convert src dst x =>
    have e := hl.evC (x := x) (by simp [Op.operands])
    simp only [opK] at h
    rcases ble_of h with ⟨_, h'⟩ | ⟨hs, h'⟩
    · cases h'
    · split at h'
      · rename_i hb
        rw [hb] at e
        split at h'
        · rename_i hd
          exact ⟨_, h', fun _ K' => by simp only [opK, hs, cond_false, e, hd]⟩
        · cases h'
      · rename_i hb
        rw [hb] at e
        split at h'
        · rename_i hd
          exact ⟨_, h', fun _ K' => by simp only [opK, hs, cond_false, e, hd]⟩
        · rename_i hd
          rcases ble_of h' with ⟨hb2, h2⟩ | ⟨_, h2⟩
          · exact ⟨_, h2, fun _ K' => by simp only [opK, hs, cond_false, e, hd, hb2, cond_true]⟩
          · cases h2
        · cases h'
      · rename_i id hb
        rw [hb] at e
        rcases ble_of h' with ⟨_, h2⟩ | ⟨hb2, h2⟩
        · cases h2
        · split at h2
          · rename_i hd
            split at h2
            · rename_i xs hxs
              refine ⟨_, h2, fun _ K' => ?_⟩
              have hc' : cont s'.T (.int .u8) (.own id) = cont s.T (.int .u8) (.own id) := cont_like (hl.at (by simp [Op.operands]) (evC_some hb))
              simp only [opK, hs, cond_false, e, hb2, hd, hc', hxs]
            · cases h2
          · rcases ble_of h2 with ⟨hb3, h2⟩ | ⟨_, h2⟩
            · simp only [Bool.and_eq_true] at hb3
              rw [hb3.1] at hn
              cases hn
            · cases h2
          · cases h2
      · rename_i c hn1 hn2 hn3 hb
        rw [hb] at e
        rcases ble_of h' with ⟨_, h2⟩ | ⟨hb2, h2⟩
        · cases h2
        · split at h2
          · rename_i hd
            split at h2
            · rename_i xs hxs
              refine ⟨_, h2, fun _ K' => ?_⟩
              have hc' : cont s'.T (.int .u8) c = cont s.T (.int .u8) c := cont_like (hl.at (by simp [Op.operands]) (evC_some hb))
              simp only [opK, hs, cond_false, e, hb2, hd, hc', hxs]
            · cases h2
          · cases h2
      · cases h'
  case slice t x lo hi mx =>
    have e := hev x (by simp [Op.operands])
    cases mx with
    | some m => simp only [opK] at h; cases h
    | none =>
      have e1 := hl.evO (x := lo) (fun y hy => by subst hy; simp [Op.operands])
      have e2 := hl.evO (x := hi) (fun y hy => by subst hy; simp [Op.operands])
      simp only [opK] at h
      split at h
      case h_2 => cases h
      rename_i v hv
      split at h
      case h_2 => cases h
      rename_i l hlo
      split at h
      case h_2 => cases h
      rename_i l' hhi
      rcases ble_of h with ⟨hb, h'⟩ | ⟨_, h'⟩
      · obtain ⟨c, hc, hi⟩ := cutV_is h'
        exact ⟨.c c, hc, fun _ K' => by simp only [opK, e, hv, e1, hlo, e2, hhi, hb, cond_true]; rw [cutV_like (hl.at (by simp [Op.operands]) hv)]; exact hi _ _⟩
      · cases h'
  case indexAddr t x i =>
    have e := hev x (by simp [Op.operands])
    have e1 := hl.evI (x := i) (by simp [Op.operands])
    simp only [opK] at h
    split at h
    case h_2 => cases h
    rename_i v hv
    split at h
    case h_2 => cases h
    rename_i n hn'
    rcases ble_of h with ⟨hb, h'⟩ | ⟨_, h'⟩
    · obtain ⟨c, hc, hi⟩ := idxAddr_is h'
      have hb' : arrOk G s' t v = true := by
        rw [arrOk_like (hl.at (by simp [Op.operands]) hv)]
        exact hb
      exact ⟨c, hc, fun _ K' => by simp only [opK, e, hv, e1, hn', hb', cond_true]; rw [idxAddr_like (hl.at (by simp [Op.operands]) hv)]; exact hi _ _⟩
    · cases h'
  case index t x i =>
    have e := hl.evC (x := x) (by simp [Op.operands])
    have e1 := hl.evI (x := i) (by simp [Op.operands])
    simp only [opK] at h
    split at h
    case h_2 => cases h
    rename_i xs hv
    split at h
    case h_2 => cases h
    rename_i n hn'
    rcases ble_of h with ⟨_, h'⟩ | ⟨hb, h'⟩
    · cases h'
    · split at h'
      · rename_i hc
        exact ⟨_, h', fun _ K' => by simp only [opK, e, hv, e1, hn', hb, cond_false, if_pos hc]⟩
      · cases h'
  case fieldAddr t x f =>
    have e := hev x (by simp [Op.operands])
    simp only [opK] at h
    rcases ble_of h with ⟨_, h'⟩ | ⟨hb, h'⟩
    · cases h'
    · split at h'
      case h_2 => cases h'
      rename_i hf
      split at h'
      · rename_i hv; exact ⟨_, h', fun _ K' => by simp only [opK, hb, cond_false, hf, e, hv]⟩
      · rename_i hv; exact ⟨_, h', fun _ K' => by simp only [opK, hb, cond_false, hf, e, hv]⟩
      · rename_i hv; exact ⟨_, h', fun _ K' => by simp only [opK, hb, cond_false, hf, e, hv]⟩
      · cases h'
  case field t x f =>
    have e := hev x (by simp [Op.operands])
    simp only [opK] at h
    rcases ble_of h with ⟨_, h'⟩ | ⟨hb, h'⟩
    · cases h'
    · split at h'
      case h_2 => cases h'
      rename_i hf
      split at h'
      case h_2 => cases h'
      rename_i cs hv
      split at h'
      case h_2 => cases h'
      rename_i v hm
      exact ⟨_, h', fun _ K' => by simp only [opK, hb, cond_false, hf, e, hv, hm]⟩
  case extract x i =>
    have e := hev x (by simp [Op.operands])
    simp only [opK] at h
    split at h
    case h_2 => cases h
    rename_i vs hv
    split at h
    case h_2 => cases h
    rename_i g cs hi
    split at h
    case h_2 => cases h
    rename_i v hm
    exact ⟨_, h, fun _ K' => by simp only [opK, e, hv, hi, hm]⟩
  case load t x =>
    have e := hev x (by simp [Op.operands])
    simp only [opK] at h
    split at h
    case h_2 => cases h
    rename_i ty ht
    split at h
    · rename_i id hv
      have hT : get s'.T id = get s.T id := hl.at (by simp [Op.operands]) hv id (by simp [vIds])
      generalize hT1 : get s.T id = gT at h
      split at h
      · rename_i tt n u xs m u'
        rcases ble_of h with ⟨hb, h'⟩ | ⟨_, h'⟩
        · exact ⟨_, h', fun _ K' => by simp only [opK, ht, e, hv, hT, hT1, hb, cond_true]⟩
        · cases h'
      · rename_i hno
        split at h
        case h_2 => cases h
        rename_i cs hc
        split at h
        case h_2 => cases h
        rename_i v hm
        refine ⟨_, h, fun _ K' => ?_⟩
        have hc' := cellsAt_like (n := ty.size) (hl.at (by simp [Op.operands]) hv)
        simp only [opK, ht, e, hv, hT, hT1, hc', hc, hm]
    · rename_i v hno hv
      split at h
      case h_2 => cases h
      rename_i cs hc
      split at h
      case h_2 => cases h
      rename_i v' hm
      refine ⟨_, h, fun _ K' => ?_⟩
      have hc' := cellsAt_like (n := ty.size) (hl.at (by simp [Op.operands]) hv)
      simp only [opK, ht, e, hv, hc', hc, hm]
    · cases h
  case call c =>
    have ea : evAll s' c.args.toList = evAll s c.args.toList := Like.evAll fun x hx => hev x (by
      simp only [Op.operands, Call.operands, Array.mem_append]
      exact .inr (by simpa using hx))
    simp only [opK] at h
    cases hc : c.callee with
    | invoke _ _ => rw [hc] at h; cases h
    | builtin b =>
      rw [hc] at h hn
      simp only [] at h
      split at h
      case h_2 => cases h
      rename_i vs hvs
      rw [hvs] at ea
      have fin : ∀ v, K v s = some r → (∀ (ρ' : Type) (K' : V → St → Option ρ'), builtinK G s' (dst.getD 999) b c.argTypes.toList vs K' = K' v s') → ∃ v, K v s = some r ∧ ∀ (ρ' : Type) (K' : V → St → Option ρ'), opK G { dst, op := Op.call c, type, pos, after := aft, guard := gd } s' K' = K' v s' := fun v hv hi =>
        ⟨v, hv, fun ρ' K' => by simp only [opK, hc, ea]; exact hi ρ' K'⟩
      have hb : b = .len ∨ b = .min ∨ b = .max := by
        cases b <;> simp only [] at hn <;> first | cases hn; done | simp
      obtain ⟨v, hv, hi⟩ := builtinK_is (s' := s') hb (fun u hu => by
        obtain ⟨y, hy, hyv⟩ := evAll_mem hvs u hu
        exact hl.at (by
          simp only [Op.operands, Call.operands, Array.mem_append]
          exact .inr (by simpa using hy)) hyv) h
      exact fin v hv hi
    | value x => rw [hc] at hn; cases hn
  case build t parts =>
    simp only [opK] at h
    split at h
    case h_3 => cases h
    · rename_i n u ht
      rcases ble_of h with ⟨_, h'⟩ | ⟨hb, h'⟩
      · cases h'
      · exact ⟨_, h', fun _ K' => by simp only [opK, ht, hb, cond_false]⟩
    · rename_i ty hno ht
      rcases ble_of h with ⟨_, h'⟩ | ⟨hb, h'⟩
      · cases h'
      · split at h'
        case h_2 => cases h'
        rename_i cs hcs
        have hbc : opK.buildC s' (tiOf G t).fields (zeroC ty) parts.toList = some cs := by
          rw [buildC_like fun p hp => hev p.2 (by simp only [Op.operands]; exact List.mem_toArray.2 (List.mem_map.2 ⟨p, hp, rfl⟩))]
          exact hcs
        refine ⟨_, h', fun _ K' => ?_⟩
        simp only [opK, ht, hb, cond_false, hbc]
end
end Go.Proofs.Ytfmfgomijjibgaa.Abs
end

section
namespace Go.Proofs.Ytfmfgomijjibgaa.Abs
open Go.RowKit

section
variable {ρ : Type} {G : Ctx} {r : ρ}

/-! ## Cells that name no object -/
theorem idsOf_nil_app {cs ds : List C} (h1 : idsOf cs = []) (h2 : idsOf ds = []) : idsOf (cs ++ ds) = [] := by rw [idsOf_app, h1, h2]; rfl
theorem idsOf_sub {cs ds : List C} (h : ∀ c ∈ cs, c ∈ ds) (hd : idsOf ds = []) : idsOf cs = [] := by
  cases hi : idsOf cs with
  | nil => rfl
  | cons i l =>
    have hm : i ∈ idsOf cs := by rw [hi]; exact List.mem_cons_self
    have : ∃ c ∈ cs, i ∈ idsOf [c] := by
      clear hi h
      induction cs with
      | nil => cases hm
      | cons c cs ih =>
        rcases idsOf_app2 (cs := [c]) (ds := cs) hm with h | h
        · exact ⟨c, List.mem_cons_self, h⟩
        · obtain ⟨c', h1, h2⟩ := ih h
          exact ⟨c', List.mem_cons_of_mem _ h1, h2⟩
    obtain ⟨c, hc, hi'⟩ := this
    have := idsOf_mem (h c hc) hi'
    rw [hd] at this
    cases this
theorem flat_noid {al : Bool} : ∀ (t : Ty) (x : t.den), idsOf (flat al t x) = []
  | .int _, _ => rfl
  | .bool, _ => rfl
  | .str, _ => rfl
  | .unit, _ => rfl
  | .sl _, _ => rfl
  | .arr n t, xs => by
    have : ∀ l : List Nat, idsOf (l.flatMap fun i => flat al t (xs.getD i t.zero)) = [] := fun l => by
      induction l with
      | nil => rfl
      | cons i l ih => rw [List.flatMap_cons]; exact idsOf_nil_app (flat_noid t _) ih
    exact this _
  | .pair a b, x => idsOf_nil_app (flat_noid a x.1) (flat_noid b x.2)
theorem spliceC_noid {cs new cs' : List C} {off : Nat} (h : spliceC cs off new = some cs') (h1 : idsOf cs = []) (h2 : idsOf new = []) : idsOf cs' = [] := by
  unfold spliceC at h
  rcases ble_of h with ⟨_, h⟩ | ⟨_, h⟩
  · cases h
    exact idsOf_nil_app (idsOf_nil_app (idsOf_sub (fun c hc => List.mem_of_mem_take hc) h1) h2) (idsOf_sub (fun c hc => List.mem_of_mem_drop hc) h1)
  · cases h
theorem repM_eq {α : Type} {f g : List C → Option (α × List C)} (hfg : ∀ cs, idsOf cs = [] → g cs = f cs ∧ ∀ x r, f cs = some (x, r) → idsOf r = []) : ∀ (n : Nat) (cs : List C), idsOf cs = [] → repM g n cs = repM f n cs ∧ ∀ x r, repM f n cs = some (x, r) → idsOf r = []
  | 0, cs, h => ⟨rfl, fun x r hx => by simp only [repM] at hx; cases hx; exact h⟩
  | n + 1, cs, h => by
    obtain ⟨h1, h2⟩ := hfg cs h
    simp only [repM]
    rw [h1]
    cases hf : f cs with
    | none => exact ⟨rfl, fun x r hx => by cases hx⟩
    | some p =>
      obtain ⟨x, r⟩ := p
      obtain ⟨h3, h4⟩ := repM_eq hfg n r (h2 x r hf)
      simp only []
      rw [h3]
      refine ⟨rfl, fun y q hy => ?_⟩
      split at hy
      · rename_i xs r' hr
        cases hy
        exact h4 xs _ hr
      · cases hy
theorem unflat_noid {T T' : Tab} : ∀ (t : Ty) (cs : List C), idsOf cs = [] → unflat T' t cs = unflat T t cs ∧ ∀ x r, unflat T t cs = some (x, r) → idsOf r = []
  | .int k, cs, h => by
    cases cs with
    | nil => exact ⟨rfl, fun x r hx => by simp [unflat] at hx⟩
    | cons c cs =>
      cases c with
      | int k' n =>
        refine ⟨rfl, fun x r hx => ?_⟩
        simp only [unflat] at hx
        split at hx
        · cases hx; simpa [idsOf] using h
        · cases hx
      | _ => exact ⟨rfl, fun x r hx => by simp [unflat] at hx⟩
  | .bool, cs, h => by
    cases cs with
    | nil => exact ⟨rfl, fun x r hx => by simp [unflat] at hx⟩
    | cons c cs =>
      cases c with
      | bool b =>
        refine ⟨rfl, fun x r hx => ?_⟩
        simp only [unflat] at hx
        cases hx; simpa [idsOf] using h
      | _ => exact ⟨rfl, fun x r hx => by simp [unflat] at hx⟩
  | .str, cs, h => by
    cases cs with
    | nil => exact ⟨rfl, fun x r hx => by simp [unflat] at hx⟩
    | cons c cs =>
      cases c with
      | str b =>
        refine ⟨rfl, fun x r hx => ?_⟩
        simp only [unflat] at hx
        cases hx; simpa [idsOf] using h
      | _ => exact ⟨rfl, fun x r hx => by simp [unflat] at hx⟩
  | .unit, cs, h => ⟨rfl, fun x r hx => by simp only [unflat] at hx; cases hx; exact h⟩
  | .sl t, cs, h => by
    cases cs with
    | nil => exact ⟨rfl, fun x r hx => by simp [unflat] at hx⟩
    | cons c cs =>
      have hc : idsOf [c] = [] := idsOf_sub (fun x hx => by simp at hx; subst hx; exact List.mem_cons_self) h
      have hr : idsOf cs = [] := idsOf_sub (fun x hx => List.mem_cons_of_mem _ hx) h
      simp only [unflat]
      rw [cont_like (T := T) (T' := T') (fun id hi => by rw [hc] at hi; cases hi)]
      refine ⟨rfl, fun x r hx => ?_⟩
      split at hx
      · cases hx; exact hr
      · cases hx
  | .arr n t, cs, h => by
    simp only [unflat]
    exact repM_eq (fun cs h => unflat_noid t cs h) n cs h
  | .pair a b, cs, h => by
    obtain ⟨h1, h2⟩ := unflat_noid (T := T) (T' := T') a cs h
    simp only [unflat]
    rw [h1]
    cases hf : unflat T a cs with
    | none => exact ⟨rfl, fun x r hx => by cases hx⟩
    | some p =>
      obtain ⟨x, r⟩ := p
      obtain ⟨h3, h4⟩ := unflat_noid (T := T) (T' := T') b r (h2 x r hf)
      simp only []
      rw [h3]
      refine ⟨rfl, fun y q hy => ?_⟩
      split at hy
      · rename_i z r' hr
        cases hy
        exact h4 z _ hr
      · cases hy
theorem unflatL_noid {T T' : Tab} {t : Ty} : ∀ {css : List (List C)}, idsOf css.flatten = [] → unflatL T' t css = unflatL T t css
  | [], _ => rfl
  | cs :: css, h => by
    have h1 : idsOf cs = [] := idsOf_sub (fun c hc => by rw [List.flatten_cons]; exact List.mem_append_left _ hc) h
    have h2 : idsOf css.flatten = [] := idsOf_sub (fun c hc => by rw [List.flatten_cons]; exact List.mem_append_right _ hc) h
    simp only [unflatL]
    rw [(unflat_noid (T := T) (T' := T') t cs h1).1, unflatL_noid h2]
theorem alOfs_noid {T T' : Tab} : ∀ {css : List (List C)}, idsOf css.flatten = [] → alOfs T' css = alOfs T css
  | [], _ => rfl
  | cs :: css, h => by
    have h1 : idsOf cs = [] := idsOf_sub (fun c hc => by rw [List.flatten_cons]; exact List.mem_append_left _ hc) h
    have h2 : idsOf css.flatten = [] := idsOf_sub (fun c hc => by rw [List.flatten_cons]; exact List.mem_append_right _ hc) h
    simp only [alOfs]
    rw [alOf_like (T := T) (T' := T') (fun id hi => by rw [h1] at hi; cases hi), alOfs_noid h2]
theorem setEl_noid {T T' : Tab} {al : Bool} {t : Ty} {xs : List t.den} {i off : Nat} {new : List C} (h : idsOf new = []) : setEl T' al t xs i off new = setEl T al t xs i off new := by
  unfold setEl
  rw [h]
  simp only [List.isEmpty_nil, Bool.not_true, cond_false]
  cases hs : spliceC (flat al t (xs.getD i t.zero)) off new with
  | none => rfl
  | some cs =>
    simp only []
    rw [(unflat_noid (T := T) (T' := T') t cs (spliceC_noid hs (flat_noid t _) h)).1, alOf_like (T := T) (T' := T') (fun id hi => by rw [h] at hi; cases hi)]
theorem cellsOf_ids {v : V} {cs : List C} (h : cellsOf v = some cs) : idsOf cs = vIds v := by
  cases v with
  | c x => cases h; rfl
  | agg cs => cases h; rfl
  | _ => cases h
theorem opIds_nil {s : St} : ∀ {l : List Operand}, (opIds s l).isEmpty = true → ∀ x ∈ l, ∀ v, ev s x = some v → vIds v = []
  | y :: l, h, x, hx, v, hv => by
    simp only [opIds] at h
    cases hx with
    | head =>
      rw [hv] at h
      simp only [List.isEmpty_iff, List.append_eq_nil_iff] at h
      exact h.1
    | tail _ hx =>
      refine opIds_nil (l := l) ?_ x hx v hv
      split at h
      · simp only [List.isEmpty_iff, List.append_eq_nil_iff] at h
        simp [h.2]
      · exact h
theorem cellss_noid {s : St} : ∀ {vs : List V} {css : List (List C)}, cellss vs = some css → (∀ v ∈ vs, vIds v = []) → idsOf css.flatten = []
  | [], css, h, _ => by cases h; rfl
  | v :: vs, css, h, hv => by
    simp only [cellss] at h
    split at h
    case h_2 => cases h
    rename_i cs hcs
    split at h
    case h_2 => cases h
    rename_i css' hcss
    cases h
    rw [List.flatten_cons]
    refine idsOf_nil_app ?_ (cellss_noid (s := s) hcss fun u hu => hv u (List.mem_cons_of_mem _ hu))
    rw [cellsOf_ids hcs]
    exact hv v List.mem_cons_self

/-! ## What is new or written -/
theorem newO_of {d : Nat} {ob : Obj} {s : St} (h : get s.T d = none) : newO d ob s = some ⟨s.env, (d, ob) :: s.T⟩ := by simp only [newO, h]
/-- What an operation in free order is worth, whatever has been carried out. -/
def FxOk (G : Ctx) (o : Oper) (s : St) (v : V) (upd : Tab) : Prop := ∀ s', Like o s s' → (∀ k, (get upd k).isSome = true → get s.T k = none → get s'.T k = none) →
  ∃ T', (∀ (ρ' : Type) (K' : V → St → Option ρ'), opK G o s' K' = K' v ⟨s'.env, T'⟩) ∧ ∀ k, get T' k = (get upd k).or (get s'.T k)
theorem fx_new {o : Oper} {s : St} {d : Nat} {ob : Obj} {v : V} (hfree : get s.T d = none) (h : ∀ s', Like o s s' → get s'.T d = none → ∀ (ρ' : Type) (K' : V → St → Option ρ'), opK G o s' K' = K' v ⟨s'.env, (d, ob) :: s'.T⟩) : FxOk G o s v [(d, ob)] := fun s' hl hf => by
  have hn : get s'.T d = none := hf d (by rw [get_cons, if_pos rfl]; rfl) hfree
  refine ⟨(d, ob) :: s'.T, h s' hl hn, fun k => ?_⟩
  rw [get_cons, get_cons]
  by_cases e : d = k
  · simp [e]
  · rw [if_neg e, if_neg e]
    rfl
theorem fx_set {o : Oper} {s : St} {id : Nat} {ob : Obj} {v : V} (h : ∀ s', Like o s s' → ∀ (ρ' : Type) (K' : V → St → Option ρ'), opK G o s' K' = K' v (setO id ob s')) : FxOk G o s v [(id, ob)] := fun s' hl hf => by
  refine ⟨(setO id ob s').T, h s' hl, fun k => ?_⟩
  simp only [setO, get_cons, get_del]
  by_cases e : id = k
  · simp [e]
  · rw [if_neg e, if_neg e, if_neg e]
    rfl
theorem fx_pure {o : Oper} {s : St} {K : V → Tab → Option ρ} (hp : pureOp o = true) (h : opK G o s (fun v _ => K v []) = some r) : ∃ v upd, K v upd = some r ∧ FxOk G o s v upd := by
  have hself : Like o s s := ⟨fun _ _ => rfl, fun _ _ => rfl⟩
  obtain ⟨v, hv, hi⟩ := opK_neutral (s' := s) hp hself h
  refine ⟨v, [], hv, fun s' hl _ => ⟨s'.T, fun ρ' K' => ?_, fun k => rfl⟩⟩
  have h0 := hi V (fun v _ => some v)
  obtain ⟨v', hv', hi'⟩ := opK_neutral (s' := s') hp hl h0
  cases hv'
  exact hi' ρ' K'
theorem newL_spec {al : Bool} {b : Nat} : ∀ {L : Tab} {s s' : St}, addObjs al [] b L s = some s' → s' = ⟨s.env, newL al b L ++ s.T⟩ ∧ (∀ k, (get (newL al b L) k).isSome = true → get s.T k = none) ∧
    ∀ s1 : St, (∀ k, (get (newL al b L) k).isSome = true → get s1.T k = none) → addObjs al [] b L s1 = some ⟨s1.env, newL al b L ++ s1.T⟩
  | [], s, s', h => by
    cases h
    exact ⟨rfl, fun k h => by simp [newL, get] at h, fun _ _ => rfl⟩
  | (i, x) :: L, s, s', h => by
    simp only [addObjs] at h
    split at h
    case h_2 => cases h
    rename_i s0 hs0
    have hg : has [] i = false := rfl
    rw [hg] at h
    simp only [cond_false] at h
    obtain ⟨e1, e2, e3⟩ := newL_spec hs0
    obtain ⟨hn, rfl⟩ := newO_some h
    subst e1
    have hnL : get (newL al b L) (b + i) = none ∧ get s.T (b + i) = none := by
      have hn : get (newL al b L ++ s.T) (b + i) = none := hn
      cases h1 : get (newL al b L) (b + i) with
      | some o =>
        exfalso
        have : ∀ (l m : Tab) k o, get l k = some o → get (l ++ m) k = some o := fun l => by
          induction l with
          | nil => intro m k o h; cases h
          | cons p l ih =>
            obtain ⟨j, y⟩ := p
            intro m k o h
            rw [List.cons_append, get_cons]
            rw [get_cons] at h
            split at h
            · rename_i e; rw [if_pos e]; exact h
            · rename_i e; rw [if_neg e]; exact ih m k o h
        rw [this _ s.T _ o h1] at hn
        cases hn
      | none =>
        refine ⟨rfl, ?_⟩
        cases h2 : get s.T (b + i) with
        | none => rfl
        | some o =>
          exfalso
          have : ∀ (l m : Tab) k, get l k = none → get (l ++ m) k = get m k := fun l => by
            induction l with
            | nil => intro m k h; rfl
            | cons p l ih =>
              obtain ⟨j, y⟩ := p
              intro m k h
              rw [List.cons_append, get_cons]
              rw [get_cons] at h
              split at h
              · cases h
              · rename_i e; rw [if_neg e]; exact ih m k h
          rw [this _ s.T _ h1, h2] at hn
          cases hn
    refine ⟨rfl, fun k hk => ?_, fun s1 hf => ?_⟩
    · simp only [newL, get_cons] at hk
      split at hk
      · rename_i e
        rw [← e]
        exact hnL.2
      · exact e2 k hk
    · have hf' : ∀ k, (get (newL al b L) k).isSome = true → get s1.T k = none := fun k hk => hf k (by
        simp only [newL, get_cons]
        split
        · rfl
        · exact hk)
      have hfi : get s1.T (b + i) = none := hf (b + i) (by simp [newL, get_cons])
      simp only [addObjs, e3 s1 hf', hg, cond_false]
      have hnn : get (newL al b L ++ s1.T) (b + i) = none := by
        cases hq : get (newL al b L ++ s1.T) (b + i) with
        | none => rfl
        | some o =>
          exfalso
          rcases get_app hq with h | ⟨_, h⟩
          · rw [hnL.1] at h; cases h
          · rw [hfi] at h; cases h
      exact newO_of hnn
theorem get_app_or {α : Type} {l m : List (Nat × α)} (k : Nat) : get (l ++ m) k = (get l k).or (get m k) := by
  induction l with
  | nil => rfl
  | cons p l ih =>
    obtain ⟨j, y⟩ := p
    rw [List.cons_append, get_cons, get_cons]
    by_cases e : j = k
    · simp [e]
    · rw [if_neg e, if_neg e]; exact ih
theorem fx_call {o : Oper} {c : Call} {s : St} {K : V → Tab → Option ρ} (ho : o.op = .call c) {f : FuncId} (hc : c.callee = .value (.func f)) {F : Fn} (hF : get G.calls f = some F) {vs : List V} (hvs : evAll s c.args.toList = some vs) (h : fxCall F s (o.dst.getD 999) vs K = some r) : ∃ v upd, K v upd = some r ∧ FxOk G o s v upd := by
  unfold fxCall at h
  rcases ble_of h with ⟨hb, h⟩ | ⟨_, h⟩
  case inr => cases h
  simp only [Bool.and_eq_true, Bool.or_eq_true, Bool.not_eq_true'] at hb
  obtain ⟨⟨⟨⟨hb1, hb2⟩, hb3⟩, hb4⟩, hb5⟩ := hb
  split at h
  case h_1 => cases h
  rename_i e he
  split at h
  case h_1 => cases h
  rename_i x hx
  cases hrun : F.run x with
  | none => rw [hrun] at h; cases h
  | some res =>
    rw [hrun] at h
    simp only [Option.bind_some] at h
    split at h
    case h_1 => cases h
    rename_i s2 hs2
    split at h
    case h_2 => cases h
    rename_i v hv
    obtain ⟨_, hfree, hadd⟩ := newL_spec hs2
    refine ⟨v, _, h, fun s' hl hf => ⟨newL (alOf s.T (argCells vs)) (1000 * (o.dst.getD 999 + 1)) (unpack F.dout res).T ++ s'.T, fun ρ' K' => ?_, fun k => get_app_or k⟩⟩
    have hmem : ∀ y ∈ c.args.toList, y ∈ o.op.operands := fun y hy => by
      rw [ho]
      simp only [Op.operands, Call.operands, Array.mem_append]
      exact .inr (by simpa using hy)
    have hids : ∀ v ∈ vs, ∀ id ∈ vIds v, get s'.T id = get s.T id := fun v hv => by
      obtain ⟨y, hy, hyv⟩ := evAll_mem hvs v hv
      exact hl.at (hmem y hy) hyv
    have ea : evAll s' c.args.toList = some vs := by rw [Like.evAll fun y hy => hl.ev y (hmem y hy)]; exact hvs
    have er : readE s'.T [] (argE 0 vs) = some e := by rw [readE_like hids]; exact he
    have eal : alOf s'.T (argCells vs) = alOf s.T (argCells vs) := alOf_like fun id hi => by
      obtain ⟨v, hv, hi⟩ := argCells_ids hi
      exact hids v hv id hi
    have efz : (bif hasAl F.dout then freezeAll (idsOf (argCells vs)) s' else some s') = some s' := by
      rcases hb4 with h | h
      · rw [h]; rfl
      · rw [List.isEmpty_iff.1 h]
        cases hasAl F.dout <;> rfl
    have eadd := hadd s' (fun k hk => hf k hk (hfree k hk))
    obtain ⟨dst, op, ty, pos, aft, gd⟩ := o
    simp only at ho
    subst ho
    simp only [opK, hc, hF, ea, callK, hb1, hb2, Bool.and_self, cond_true, hb3, callR, hb5, Bool.not_true, cond_false, er, hx, efz, hrun, Option.bind_some, eal]
    simp only at eadd hv
    rw [eadd]
    simp only [hv]
end
end Go.Proofs.Ytfmfgomijjibgaa.Abs
end

section
namespace Go.Proofs.Ytfmfgomijjibgaa.Abs
open Go.RowKit

section
variable {ρ : Type} {G : Ctx} {r : ρ}
theorem at_new {d : Nat} {ob : Obj} {T : Tab} {v : V} {K : V → Tab → Option ρ} (h : (match get ((d, ob) :: T) d with
    | some ob => K v [(d, ob)]
    | none => none) = some r) : K v [(d, ob)] = some r := by
  rw [get_cons, if_pos rfl] at h
  exact h
theorem at_set {id : Nat} {ob : Obj} {s : St} {v : V} {K : V → Tab → Option ρ} (h : (match get (setO id ob s).T id with
    | some ob => K v [(id, ob)]
    | none => none) = some r) : K v [(id, ob)] = some r := by
  simp only [setO] at h
  rw [get_cons, if_pos rfl] at h
  exact h
theorem fx_alloc {o : Oper} {t : TypeId} {s : St} {K : V → Tab → Option ρ} (ho : o.op = .alloc t) (h : opK G o s (fun v s' => match get s'.T (o.dst.getD 999) with
    | some ob => K v [(o.dst.getD 999, ob)]
    | none => none) = some r) : ∃ v upd, K v upd = some r ∧ FxOk G o s v upd := by
  obtain ⟨dst, op, ty, pos, aft, gd⟩ := o
  simp only at ho
  subst ho
  simp only [opK] at h
  split at h
  · rename_i n u ht
    rcases ble_of h with ⟨_, h'⟩ | ⟨hs, h'⟩
    · cases h'
    · split at h'
      case h_2 => cases h'
      rename_i s1 hn
      obtain ⟨hf, rfl⟩ := newO_some hn
      exact ⟨_, _, at_new h', fx_new hf fun s' _ hn' ρ' K' => by simp only [opK, ht, hs, cond_false, newO_of hn']⟩
  · rename_i τ hno ht
    split at h
    case h_2 => cases h
    rename_i s1 hn
    obtain ⟨hf, rfl⟩ := newO_some hn
    refine ⟨_, _, at_new h, fx_new hf fun s' _ hn' ρ' K' => ?_⟩
    simp only [opK, ht, newO_of hn']
  · cases h
theorem fx_box {o : Oper} {t : TypeId} {x : Operand} {s : St} {K : V → Tab → Option ρ} (ho : o.op = .box t x) (h : opK G o s (fun v s' => match get s'.T (o.dst.getD 999) with
    | some ob => K v [(o.dst.getD 999, ob)]
    | none => none) = some r) : ∃ v upd, K v upd = some r ∧ FxOk G o s v upd := by
  obtain ⟨dst, op, ty, pos, aft, gd⟩ := o
  simp only at ho
  subst ho
  simp only [opK] at h
  split at h
  case h_2 => cases h
  rename_i τ ht
  split at h
  · rename_i n u xs hv
    split at h
    case h_2 => cases h
    rename_i s1 hn
    obtain ⟨hf, rfl⟩ := newO_some hn
    exact ⟨_, _, at_new h, fx_new hf fun s' hl hn' ρ' K' => by
      have e := hl.ev x (by simp [Op.operands])
      simp only [opK, ht, e, hv, newO_of hn']⟩
  · rename_i v hno hv
    split at h
    case h_2 => cases h
    rename_i cs hcs
    rcases ble_of h with ⟨hb, h'⟩ | ⟨_, h'⟩
    case inr => cases h'
    split at h'
    case h_2 => cases h'
    rename_i s1 hn
    obtain ⟨hf, rfl⟩ := newO_some hn
    refine ⟨_, _, at_new h', fx_new hf fun s' hl hn' ρ' K' => ?_⟩
    have e := hl.ev x (by simp [Op.operands])
    simp only [opK, ht, e, hv, hcs, hb, cond_true, newO_of hn']
  · cases h
theorem fx_make {o : Oper} {t : TypeId} {x y : Operand} {s : St} {K : V → Tab → Option ρ} (ho : o.op = .makeSlice t x y) (h : opK G o s (fun v s' => match get s'.T (o.dst.getD 999) with
    | some ob => K v [(o.dst.getD 999, ob)]
    | none => none) = some r) : ∃ v upd, K v upd = some r ∧ FxOk G o s v upd := by
  obtain ⟨dst, op, ty, pos, aft, gd⟩ := o
  simp only at ho
  subst ho
  simp only [opK] at h
  split at h
  case h_2 => cases h
  rename_i e0 u hE
  split at h
  case h_2 => cases h
  rename_i n hn0
  split at h
  case h_2 => cases h
  rename_i m hm0
  rcases ble_of h with ⟨_, h'⟩ | ⟨hb, h'⟩
  · cases h'
  · split at h'
    case isFalse => cases h'
    rename_i hcond
    split at h'
    case h_2 => cases h'
    rename_i s1 hn
    obtain ⟨hf, rfl⟩ := newO_some hn
    refine ⟨_, _, at_new h', fx_new hf fun s' hl hn' ρ' K' => ?_⟩
    have e1 := hl.evI (x := x) (by simp [Op.operands])
    have e2 := hl.evI (x := y) (by simp [Op.operands])
    simp only [opK, hE, e1, hn0, e2, hm0, hb, cond_false, if_pos hcond, newO_of hn']
theorem fx_buildSlice {o : Oper} {t : TypeId} {len : Nat} {parts : Array (Nat × Operand)} {s : St} {K : V → Tab → Option ρ} (ho : o.op = .buildSlice t len parts) (hid : (opIds s o.op.operands.toList).isEmpty = true) (h : opK G o s (fun v s' => match get s'.T (o.dst.getD 999) with
    | some ob => K v [(o.dst.getD 999, ob)]
    | none => none) = some r) : ∃ v upd, K v upd = some r ∧ FxOk G o s v upd := by
  obtain ⟨dst, op, ty, pos, aft, gd⟩ := o
  simp only at ho
  subst ho
  simp only [opK] at h
  split at h
  case h_2 => cases h
  rename_i e0 u hE
  rcases ble_of h with ⟨hb, h'⟩ | ⟨_, h'⟩
  case inr => cases h'
  split at h'
  case h_2 => cases h'
  rename_i vs hvs
  split at h'
  case h_2 => cases h'
  rename_i css hcss
  have hmem : ∀ y ∈ parts.toList.map (·.2), y ∈ (Op.buildSlice t len parts).operands := fun y hy => by
    simp only [Op.operands]
    exact List.mem_toArray.2 hy
  have hno : idsOf css.flatten = [] := cellss_noid (s := s) hcss fun v hv => by
    obtain ⟨y, hy, hyv⟩ := evAll_mem hvs v hv
    exact opIds_nil hid y (by simpa using hmem y hy) v hyv
  rw [hno] at h'
  simp only [freezeAll] at h'
  split at h'
  case h_2 => cases h'
  rename_i xs hxs
  split at h'
  case h_2 => cases h'
  rename_i s2 hn
  obtain ⟨hf, rfl⟩ := newO_some hn
  refine ⟨_, _, at_new h', fx_new hf fun s' hl hn' ρ' K' => ?_⟩
  have e1 : evAll s' (parts.toList.map (·.2)) = some vs := by rw [Like.evAll fun y hy => hl.ev y (hmem y hy)]; exact hvs
  have e2 : unflatL s'.T u css = some xs := by rw [unflatL_noid hno]; exact hxs
  have e3 : alOfs s'.T css = alOfs s.T css := alOfs_noid hno
  simp only [opK, hE, hb, cond_true, e1, hcss, hno, freezeAll, e2, e3, newO_of hn']

theorem fx_store {o : Oper} {t : TypeId} {x y : Operand} {s : St} {K : V → Tab → Option ρ} (ho : o.op = .store t x y) {id : Nat} (hx : (∃ off, ev s x = some (.pt id off)) ∨ ((∃ i off, ev s x = some (.oa id i off)) ∧ (opIds s [y]).isEmpty = true)) (h : opK G o s (fun v s' => match get s'.T id with
    | some ob => K v [(id, ob)]
    | none => none) = some r) : ∃ v upd, K v upd = some r ∧ FxOk G o s v upd := by
  obtain ⟨dst, op, ty, pos, aft, gd⟩ := o
  simp only at ho
  subst ho
  have mx : x ∈ (Op.store t x y).operands := by simp [Op.operands]
  have my : y ∈ (Op.store t x y).operands := by simp [Op.operands]
  simp only [opK] at h
  split at h
  case h_2 => cases h
  rename_i τ ht
  split at h
  case h_2 => cases h
  rename_i ad had
  split at h
  · rename_i n u xs hy
    split at h
    case h_2 => cases h
    rename_i id' 
    split at h
    case h_2 => cases h
    rename_i tt m u' ys hT
    rcases ble_of h with ⟨hb, h'⟩ | ⟨_, h'⟩
    case inr => cases h'
    have hid : id' = id := by
      rcases hx with ⟨off, hx⟩ | ⟨⟨i, off, hx⟩, _⟩ <;> rw [had] at hx <;> cases hx
      rfl
    subst hid
    refine ⟨_, _, at_set h', fx_set fun s' hl ρ' K' => ?_⟩
    have e1 := hl.ev x mx
    have e2 := hl.ev y my
    have e3 : get s'.T id' = get s.T id' := hl.at mx had id' (by simp [vIds])
    simp only [opK, ht, e1, had, e2, hy, e3, hT, hb, cond_true]
  · rename_i v hno hy
    split at h
    case h_2 => cases h
    rename_i cs hcs
    rcases ble_of h with ⟨hb, h'⟩ | ⟨_, h'⟩
    case inr => cases h'
    split at h'
    · rename_i id' i off
      have hid : id' = id := by
        rcases hx with ⟨off, hx⟩ | ⟨⟨i, off, hx⟩, _⟩ <;> rw [had] at hx <;> cases hx
        rfl
      subst hid
      have hnoid : idsOf cs = [] := by
        rcases hx with ⟨off, hx⟩ | ⟨_, hx⟩
        · rw [had] at hx; cases hx
        · rw [cellsOf_ids hcs]
          exact opIds_nil hx y (by simp) v hy
      rw [hnoid] at h'
      simp only [freezeAll, hy, hcs, had, hb, cond_true] at h'
      split at h'
      case h_2 => cases h'
      rename_i s2 hst
      -- the element that is written
      have key : ∃ ob, s2 = setO id' ob s ∧ ∀ s', get s'.T id' = get s.T id' → storeAt s' (.oa id' i off) cs = some (setO id' ob s') := by
        simp only [storeAt] at hst
        split at hst
        · rename_i e al tt xs hT
          split at hst
          case h_2 => cases hst
          rename_i xs' al' hel
          cases hst
          exact ⟨_, rfl, fun s' he => by simp only [storeAt, he, hT, setEl_noid (T := s.T) (T' := s'.T) hnoid, hel]⟩
        · rename_i al tt xs hT
          split at hst
          case h_2 => cases hst
          rename_i xs' al' hel
          rcases ble_of hst with ⟨hbb, hst⟩ | ⟨_, hst⟩
          case inr => cases hst
          cases hst
          exact ⟨_, rfl, fun s' he => by simp only [storeAt, he, hT, setEl_noid (T := s.T) (T' := s'.T) hnoid, hel, hbb, cond_true]⟩
        · rename_i ty2 n tt xs hT
          rcases ble_of hst with ⟨_, hst⟩ | ⟨hbb, hst⟩
          · cases hst
          · split at hst
            case h_2 => cases hst
            rename_i xs' al' hel
            cases hst
            exact ⟨_, rfl, fun s' he => by simp only [storeAt, he, hT, hbb, cond_false, setEl_noid (T := s.T) (T' := s'.T) hnoid, hel]⟩
        · cases hst
      obtain ⟨ob, rfl, hgen⟩ := key
      refine ⟨_, _, at_set h', fx_set fun s' hl ρ' K' => ?_⟩
      have e1 := hl.ev x mx
      have e2 := hl.ev y my
      have e3 := hgen s' (hl.at mx had id' (by simp [vIds]))
      simp only [opK, ht, e1, had, e2, hy, hcs, hb, cond_true, hnoid, freezeAll, e3]
    · rename_i hnoa
      split at h'
      case h_2 => cases h'
      rename_i s2 hst
      obtain ⟨off, hx⟩ : ∃ off, ev s x = some (.pt id off) := by
        rcases hx with hx | ⟨⟨i, off, hx⟩, _⟩
        · exact hx
        · rw [had] at hx
          cases hx
          exact absurd rfl (hnoa _ _ _)
      rw [had] at hx
      cases hx
      have key : ∃ ob, s2 = setO id ob s ∧ ∀ s', get s'.T id = get s.T id → storeAt s' (.pt id off) cs = some (setO id ob s') := by
        simp only [storeAt] at hst
        split at hst
        case h_2 => cases hst
        rename_i ty2 ds hT
        split at hst
        case h_2 => cases hst
        rename_i ds' hsp
        cases hst
        exact ⟨_, rfl, fun s' he => by simp only [storeAt, he, hT, hsp]⟩
      obtain ⟨ob, rfl, hgen⟩ := key
      refine ⟨_, _, at_set h', fx_set fun s' hl ρ' K' => ?_⟩
      have e1 := hl.ev x mx
      have e2 := hl.ev y my
      have e3 := hgen s' (hl.at mx had id (by simp [vIds]))
      simp only [opK, ht, e1, had, e2, hy, hcs, hb, cond_true, e3]
  · cases h

theorem fxK_ok {o : Oper} {s : St} {K : V → Tab → Option ρ} (h : fxK G o s K = some r) : ∃ v upd, K v upd = some r ∧ FxOk G o s v upd := by
  unfold fxK at h
  simp only [] at h
  rcases ble_of h with ⟨hp, h⟩ | ⟨_, h⟩
  · exact fx_pure hp h
  · split at h
    · rename_i ho; exact fx_alloc ho h
    · rename_i ho; exact fx_box ho h
    · rename_i ho; exact fx_make ho h
    · rename_i ho
      rcases ble_of h with ⟨hb, h⟩ | ⟨_, h⟩
      · exact fx_buildSlice ho hb h
      · cases h
    · rename_i ho
      split at h
      · rename_i hx; exact fx_store ho (.inl ⟨_, hx⟩) h
      · rename_i hx
        rcases ble_of h with ⟨hb, h⟩ | ⟨_, h⟩
        · exact fx_store ho (.inr ⟨⟨_, _, hx⟩, hb⟩) h
        · cases h
      · cases h
    · rename_i ho
      split at h
      · rename_i hc
        split at h
        case h_2 => cases h
        rename_i hF
        split at h
        case h_2 => cases h
        rename_i hvs
        exact fx_call ho hc hF hvs h
      · cases h
    · cases h
end
end Go.Proofs.Ytfmfgomijjibgaa.Abs
end

section
namespace Go.Proofs.Ytfmfgomijjibgaa.Abs
open Go.RowKit

/-! ## Sets of numbers as numbers -/
theorem inM_test (m i : Nat) : inM m i = m.testBit i := by
  unfold inM Nat.testBit
  have e : Nat.land (Nat.shiftRight m i) 1 = (m >>> i) &&& 1 := rfl
  rw [e, Nat.and_comm 1]
  have h : (m >>> i) &&& 1 = (m >>> i) % 2 := Nat.and_one_is_mod _
  rw [h]
  rcases Nat.mod_two_eq_zero_or_one (m >>> i) with h | h <;> rw [h] <;> rfl
theorem inM_lor {a b i : Nat} : inM (Nat.lor a b) i = (inM a i || inM b i) := by
  rw [inM_test, inM_test, inM_test]
  exact Nat.testBit_or a b i
theorem inM_one {k i : Nat} : inM (Nat.shiftLeft 1 k) i = decide (k = i) := by
  rw [inM_test]
  have e : Nat.shiftLeft 1 k = 2 ^ k := by
    show 1 <<< k = 2 ^ k
    rw [Nat.shiftLeft_eq, Nat.one_mul]
  rw [e, Nat.testBit_two_pow]
theorem inM_zero {i : Nat} : inM 0 i = false := by rw [inM_test]; exact Nat.zero_testBit i
noncomputable def allM (m n : Nat) : Bool := Nat.beq (Nat.land m (Nat.sub (Nat.shiftLeft 1 n) 1)) (Nat.sub (Nat.shiftLeft 1 n) 1)
theorem allM_spec {m n k : Nat} (h : allM m n = true) (hk : k < n) : inM m k = true := by
  have h := Nat.eq_of_beq_eq_true h
  have e : Nat.sub (Nat.shiftLeft 1 n) 1 = 2 ^ n - 1 := by
    show 1 <<< n - 1 = 2 ^ n - 1
    rw [Nat.shiftLeft_eq, Nat.one_mul]
  rw [e] at h
  have h2 : (m &&& (2 ^ n - 1)).testBit k = (2 ^ n - 1).testBit k := by
    have : m &&& (2 ^ n - 1) = 2 ^ n - 1 := h
    rw [this]
  rw [Nat.testBit_and, Nat.testBit_two_pow_sub_one] at h2
  rw [inM_test]
  simpa [hk] using h2
theorem sub_spec {g L : Nat} (h : Nat.beq (Nat.land g L) g = true) {j : Nat} (hj : inM g j = true) : inM L j = true := by
  have h : g &&& L = g := Nat.eq_of_beq_eq_true h
  rw [inM_test] at hj ⊢
  have : (g &&& L).testBit j = g.testBit j := by rw [h]
  rw [Nat.testBit_and, hj] at this
  simpa using this
theorem edM_spec {p : Ground → Bool} : ∀ {l : List Edge} {e : Edge}, e ∈ l → p e.ground = true → inM (edM p l) e.on = true
  | x :: l, e, h, hp => by
    simp only [edM]
    cases h with
    | head => rw [hp]; simp only [cond_true]; rw [inM_lor, inM_one]; simp
    | tail _ h =>
      have := edM_spec h hp
      cases p x.ground with
      | true => simp only [cond_true]; rw [inM_lor, this, Bool.or_true]
      | false => exact this
theorem cloOf_spec {ms : List Nat} {j : Nat} : ∀ {l : List Edge}, inM (cloOf ms l) j = true → ∃ e ∈ l, grAny e.ground = true ∧ (e.on = j ∨ inM (ms.getD e.on 0) j = true)
  | [], h => by rw [cloOf, inM_zero] at h; cases h
  | e :: l, h => by
    simp only [cloOf] at h
    cases hg : grAny e.ground with
    | true =>
      rw [hg] at h
      simp only [cond_true] at h
      rw [inM_lor, inM_lor, inM_one] at h
      simp only [Bool.or_eq_true, decide_eq_true_eq] at h
      rcases h with (h | h) | h
      · exact ⟨e, List.mem_cons_self, hg, .inl h⟩
      · exact ⟨e, List.mem_cons_self, hg, .inr h⟩
      · obtain ⟨e', h1, h2⟩ := cloOf_spec h
        exact ⟨e', List.mem_cons_of_mem _ h1, h2⟩
    | false =>
      rw [hg] at h
      obtain ⟨e', h1, h2⟩ := cloOf_spec (l := l) h
      exact ⟨e', List.mem_cons_of_mem _ h1, h2⟩
theorem clos_app : ∀ (l : List Oper) (ms : List Nat), ∃ t, clos l ms = ms ++ t
  | [], ms => ⟨[], by simp [clos]⟩
  | o :: l, ms => by
    obtain ⟨t, ht⟩ := clos_app l (ms ++ [cloOf ms o.after.toList])
    exact ⟨cloOf ms o.after.toList :: t, by rw [clos, ht, List.append_assoc]; rfl⟩
theorem clos_at : ∀ (l : List Oper) (ms : List Nat) (k : Nat) (o : Oper), l[k]? = some o → ∃ pre t, clos l ms = pre ++ cloOf pre o.after.toList :: t ∧ pre.length = ms.length + k
  | [], _, _, _, h => by simp at h
  | x :: l, ms, 0, o, h => by
    simp at h
    subst h
    obtain ⟨t, ht⟩ := clos_app l (ms ++ [cloOf ms x.after.toList])
    exact ⟨ms, t, by rw [clos, ht, List.append_assoc]; rfl, rfl⟩
  | x :: l, ms, k + 1, o, h => by
    obtain ⟨pre, t, h1, h2⟩ := clos_at l (ms ++ [cloOf ms x.after.toList]) k o (by simpa using h)
    exact ⟨pre, t, by rw [clos]; exact h1, by rw [h2]; simp; omega⟩
/-- What stands before, stands there by edges. -/
theorem clos_spec {l : List Oper} {k j : Nat} {o : Oper} (h : l[k]? = some o) (hj : inM ((clos l []).getD k 0) j = true) : ∃ e ∈ o.after.toList, grAny e.ground = true ∧ (e.on = j ∨ inM ((clos l []).getD e.on 0) j = true) := by
  obtain ⟨pre, t, h1, h2⟩ := clos_at l [] k o h
  have h2 : pre.length = k := by simpa using h2
  have e1 : (clos l []).getD k 0 = cloOf pre o.after.toList := by
    rw [h1, List.getD_eq_getElem?_getD, List.getElem?_append_right (by omega), h2]
    simp
  rw [e1] at hj
  obtain ⟨e, he, hg, h3⟩ := cloOf_spec hj
  refine ⟨e, he, hg, h3.imp id fun h => ?_⟩
  rw [List.getD_eq_getElem?_getD] at h ⊢
  by_cases hlt : e.on < pre.length
  · rw [h1, List.getElem?_append_left hlt]
    exact h
  · rw [List.getElem?_eq_none (by omega)] at h
    simp only [Option.getD_none] at h
    rw [inM_zero] at h
    cases h

/-! ## The test of a region's text -/
noncomputable def tmpsL : List Operand → List Nat
  | [] => []
  | .tmp t :: r => t :: tmpsL r
  | _ :: r => tmpsL r
noncomputable def looksL (l : List Oper) (o : Oper) : List Nat := match o.guard with
  | none => tmpsL o.op.operands.toList
  | some (j, _) => match l[j]? with
    | some oj => match oj.dst with
      | some d => d :: tmpsL o.op.operands.toList
      | none => tmpsL o.op.operands.toList
    | none => tmpsL o.op.operands.toList
noncomputable def awayB (d : Option Nat) (l : List Nat) : Bool := match d with
  | some d => !has l d
  | none => true
noncomputable def neB (d e : Option Nat) : Bool := match d, e with
  | some d, some e => !Nat.beq d e
  | _, _ => true
noncomputable def pairB (l : List Oper) (clo : Nat) (j : Nat) (oj oi : Oper) : Bool := (inM clo j || (awayB oj.dst (looksL l oi) && awayB oi.dst (looksL l oj))) && neB oj.dst oi.dst
noncomputable def pairsB (l : List Oper) (clo : Nat) (oi : Oper) : Nat → List Oper → Bool
  | _, [] => true
  | j, oj :: r => pairB l clo j oj oi && pairsB l clo oi (j + 1) r
noncomputable def edgesB (i : Nat) (o : Oper) : Bool := o.after.toList.all fun e => !grTxt e.ground || Nat.blt e.on i
noncomputable def edgesAll : Nat → List Oper → Bool
  | _, [] => true
  | i, o :: r => edgesB i o && edgesAll (i + 1) r
/-- Where those begin that stand behind all before them. -/
noncomputable def serial (ms : List Nat) : Nat → Nat
  | 0 => 0
  | n + 1 => bif allM (ms.getD n 0) n then serial ms n else n + 1
noncomputable def pairsAll (l : List Oper) (ms : List Nat) (m : Nat) : Nat → List Oper → Bool
  | _, [] => true
  | i, o :: r => bif Nat.blt i m then pairsB l (ms.getD i 0) o 0 (l.take i) && pairsAll l ms m (i + 1) r else true
noncomputable def pick1 (L : Nat) : Nat → List Nat → Option Nat
  | _, [] => none
  | i, g :: r => bif !inM L i && Nat.beq (Nat.land g L) g then some i else pick1 L (i + 1) r
noncomputable def greedy (gs : List Nat) : Nat → Nat → Nat
  | 0, L => L
  | f + 1, L => match pick1 L 0 gs with
    | some i => greedy gs f (Nat.lor L (Nat.shiftLeft 1 i))
    | none => L
noncomputable def gcMs (l : List Oper) : List Nat := l.map fun o => edM grGc o.after.toList
noncomputable def plainB (l : List Oper) : Bool := l.all fun o => o.after.toList.all fun e => grAny e.ground
noncomputable def regM (ops : Array Oper) : Option (List Nat × Nat) :=
  let l := ops.toList
  let ms := clos l []
  let m := serial ms l.length
  bif edgesAll 0 l && pairsAll l ms m 0 l && (plainB l || allM (greedy (gcMs l) l.length 0) l.length) then some (ms, m) else none

structure Calm (ops : Array Oper) (ms : List Nat) (m : Nat) : Prop where
  le : m ≤ ops.size
  msd : ms = clos ops.toList []
  edges : ∀ (i : Nat) o, ops[i]? = some o → ∀ e ∈ o.after.toList, grTxt e.ground = true → e.on < i
  pairs : ∀ (j i : Nat) oj oi, j < i → i < m → ops[j]? = some oj → ops[i]? = some oi → pairB ops.toList (ms.getD i 0) j oj oi = true
  rest : ∀ (i : Nat) o, m ≤ i → ops[i]? = some o → ∀ k, k < i → inM (ms.getD i 0) k = true
  gc : (∀ (i : Nat) o, ops[i]? = some o → ∀ e ∈ o.after.toList, grAny e.ground = true) ∨ allM (greedy (gcMs ops.toList) ops.size 0) ops.size = true
theorem edgesAll_spec : ∀ {l : List Oper} {i0 : Nat}, edgesAll i0 l = true → ∀ (k : Nat) o, l[k]? = some o → edgesB (i0 + k) o = true
  | [], _, _, k, o, h => by simp at h
  | x :: l, i0, hb, k, o, h => by
    simp only [edgesAll, Bool.and_eq_true] at hb
    cases k with
    | zero => simp at h; subst h; exact hb.1
    | succ k =>
      have := edgesAll_spec hb.2 k o (by simpa using h)
      rwa [show i0 + 1 + k = i0 + (k + 1) by omega] at this
theorem serial_spec {ms : List Nat} : ∀ {n : Nat}, serial ms n ≤ n ∧ ∀ i, serial ms n ≤ i → i < n → allM (ms.getD i 0) i = true
  | 0 => ⟨Nat.le_refl _, fun i _ h => by omega⟩
  | n + 1 => by
    simp only [serial]
    cases hb : allM (ms.getD n 0) n with
    | true =>
      obtain ⟨h1, h2⟩ := serial_spec (ms := ms) (n := n)
      refine ⟨by simp only [cond_true]; omega, fun i hi hn => ?_⟩
      simp only [cond_true] at hi
      by_cases e : i = n
      · rw [e]; exact hb
      · exact h2 i hi (by omega)
    | false => exact ⟨Nat.le_refl _, fun i hi hn => by simp only [cond_false] at hi; omega⟩
theorem pairsB_spec {l : List Oper} {clo : Nat} {oi : Oper} : ∀ {r : List Oper} {j0 : Nat}, pairsB l clo oi j0 r = true → ∀ (j : Nat) oj, r[j]? = some oj → pairB l clo (j0 + j) oj oi = true
  | [], _, _, j, oj, h => by simp at h
  | o :: r, j0, hp, j, oj, h => by
    simp only [pairsB, Bool.and_eq_true] at hp
    cases j with
    | zero =>
      simp at h
      subst h
      exact hp.1
    | succ j =>
      have := pairsB_spec hp.2 j oj (by simpa using h)
      rw [show j0 + 1 + j = j0 + (j + 1) by omega] at this
      exact this
theorem pairsAll_spec {l : List Oper} {ms : List Nat} {m : Nat} : ∀ {r : List Oper} {i0 : Nat}, pairsAll l ms m i0 r = true → ∀ (k : Nat) o, r[k]? = some o → i0 + k < m → pairsB l (ms.getD (i0 + k) 0) o 0 (l.take (i0 + k)) = true
  | [], _, _, k, o, h, _ => by simp at h
  | x :: r, i0, hb, k, o, h, hk => by
    simp only [pairsAll] at hb
    rw [Nat.blt_eq.mpr (show i0 < m by omega)] at hb
    simp only [cond_true, Bool.and_eq_true] at hb
    cases k with
    | zero => simp at h; subst h; exact hb.1
    | succ k =>
      have := pairsAll_spec hb.2 k o (by simpa using h) (by omega)
      rwa [show i0 + 1 + k = i0 + (k + 1) by omega] at this
theorem calm_of {ops : Array Oper} {ms : List Nat} {m : Nat} (h : regM ops = some (ms, m)) : Calm ops ms m := by
  unfold regM at h
  simp only [] at h
  cases hb : (edgesAll 0 ops.toList && pairsAll ops.toList (clos ops.toList []) (serial (clos ops.toList []) ops.toList.length) 0 ops.toList && (plainB ops.toList || allM (greedy (gcMs ops.toList) ops.toList.length 0) ops.toList.length)) with
  | false => rw [hb] at h; cases h
  | true =>
    rw [hb] at h
    simp only [cond_true, Option.some.injEq, Prod.mk.injEq] at h
    obtain ⟨rfl, rfl⟩ := h
    simp only [Bool.and_eq_true, Bool.or_eq_true] at hb
    obtain ⟨⟨h1, h2⟩, h3⟩ := hb
    have g : ∀ (i : Nat) o, ops[i]? = some o → ops.toList[i]? = some o := fun i o h => by simpa using h
    have hlen : ops.toList.length = ops.size := Array.length_toList
    obtain ⟨s1, s2⟩ := serial_spec (ms := clos ops.toList []) (n := ops.toList.length)
    refine ⟨by omega, rfl, fun i o ho e he hg => ?_, fun j i oj oi hji him hoj hoi => ?_, fun i o hi ho k hk => ?_, h3.imp (fun h i o ho e he => ?_) (fun h => by rw [hlen] at h; exact h)⟩
    · have := edgesAll_spec h1 i o (g i o ho)
      rw [Nat.zero_add] at this
      have := (List.all_eq_true.1 this) e he
      rw [hg] at this
      exact Nat.blt_eq.mp (by simpa using this)
    · have := pairsAll_spec h2 i oi (g i oi hoi) (by omega)
      rw [Nat.zero_add] at this
      have := pairsB_spec this j oj (by rw [List.getElem?_take, if_pos hji]; exact g j oj hoj)
      rwa [Nat.zero_add] at this
    · have hlt := (Array.getElem?_eq_some_iff.1 ho).1
      exact allM_spec (s2 i hi (by omega)) hk
    · have := (List.all_eq_true.1 h) o (List.mem_iff_getElem?.2 ⟨i, g i o ho⟩)
      exact (List.all_eq_true.1 this) e he

def Closed (ops : Array Oper) (D : Nat → Prop) : Prop := ∀ i o, D i → ops[i]? = some o → ∀ e ∈ o.after.toList, grAny e.ground = true → D e.on
/-- What stands before an operation that is there, is there. -/
theorem clo_in {ops : Array Oper} {ms : List Nat} {m : Nat} (C : Calm ops ms m) {D : Nat → Prop} (hc : Closed ops D) : ∀ (n i : Nat) (o : Oper), i < n → ops[i]? = some o → (∀ e ∈ o.after.toList, grAny e.ground = true → D e.on) → ∀ j, inM (ms.getD i 0) j = true → D j
  | 0, i, o, hi, _, _, j, _ => by omega
  | n + 1, i, o, hi, ho, hd, j, hj => by
    rw [C.msd] at hj
    obtain ⟨e, he, hg, h⟩ := clos_spec (l := ops.toList) (by simpa using ho) hj
    have hDe := hd e he hg
    rcases h with rfl | h
    · exact hDe
    · have hlt := C.edges i o ho e he (by cases hgr : e.ground <;> rw [hgr] at hg <;> first | rfl | cases hg)
      have hsz := (Array.getElem?_eq_some_iff.1 ho).1
      obtain ⟨o', ho'⟩ : ∃ o', ops[e.on]? = some o' := ⟨_, Array.getElem?_eq_getElem (by omega)⟩
      exact clo_in C hc n e.on o' (by omega) ho' (hc e.on o' hDe ho') j (by rw [C.msd]; exact h)
theorem clo_mem {ops : Array Oper} {ms : List Nat} {m : Nat} (C : Calm ops ms m) {D : Nat → Prop} (hc : Closed ops D) {i j : Nat} (hi : D i) (hlt : i < ops.size) (hj : inM (ms.getD i 0) j = true) : D j := by
  obtain ⟨o, ho⟩ : ∃ o, ops[i]? = some o := ⟨_, Array.getElem?_eq_getElem hlt⟩
  exact clo_in C hc (i + 1) i o (by omega) ho (hc i o hi ho) j hj
end Go.Proofs.Ytfmfgomijjibgaa.Abs
end

section
namespace Go.Proofs.Ytfmfgomijjibgaa.Abs
open Go.RowKit

section
variable {ρ : Type} {G : Ctx} {fr : Fr} {r : ρ}

/-! ## States that are the same to the eye -/
structure Same (s s1 : St) : Prop where
  env : ∀ t, get s1.env t = get s.env t
  T : s1.T = s.T
theorem Same.refl (s : St) : Same s s := ⟨fun _ => rfl, rfl⟩
theorem Same.ev {s s1 : St} (h : Same s s1) (x : Operand) : ev s1 x = ev s x := by
  cases x <;> simp only [Go.Proofs.Ytfmfgomijjibgaa.Abs.ev]
  unfold getT
  rw [h.env]
theorem Same.opIds {s s1 : St} (h : Same s s1) : ∀ l : List Operand, opIds s1 l = opIds s l
  | [] => rfl
  | x :: l => by
    simp only [Go.Proofs.Ytfmfgomijjibgaa.Abs.opIds]
    rw [h.ev, h.opIds l]
theorem FxOk.same {o : Oper} {s s1 : St} {v : V} {upd : Tab} (h : FxOk G o s1 v upd) (e : Same s s1) : FxOk G o s v upd := fun s' hl hf =>
  h s' ⟨fun x hx => (hl.ev x hx).trans (e.ev x).symm, fun id hi => by rw [e.opIds] at hi; rw [e.T]; exact hl.ids id hi⟩ fun k hk hn => hf k hk (by rw [← e.T]; exact hn)
theorem lit_get {s : St} {o : Oper} {d : Nat} {b : Bool} (hd : o.dst = some d) (h : get s.env d = some (.c (.bool b))) : Same s (literalB s o b) := by
  refine ⟨fun t => ?_, by unfold literalB; split <;> rfl⟩
  simp only [literalB, hd, get_put]
  by_cases e : d = t
  · subst e; simp [h]
  · simp [e]
theorem putV_get {n : Nat} {s : St} {d : Option Nat} {v : V} (t : Nat) : get (putV n s d v).env t = if d = some t ∧ t < n then some v else get s.env t := by
  cases d with
  | none => simp [putV]
  | some d =>
    simp only [putV]
    cases hb : Nat.blt d n with
    | true =>
      have := Nat.blt_eq.mp hb
      simp only [cond_true, get_put]
      by_cases e : d = t
      · subst e; simp [this]
      · simp [e]
    | false =>
      have : ¬ d < n := fun h => by rw [Nat.blt_eq.mpr h] at hb; cases hb
      simp only [cond_false]
      by_cases e : d = t
      · subst e; simp [this]
      · simp [e]
theorem putV_T {n : Nat} {s : St} {d : Option Nat} {v : V} : (putV n s d v).T = s.T := by
  cases d with
  | none => rfl
  | some d =>
    simp only [putV]
    cases Nat.blt d n <;> rfl

/-! ## The canonical run -/
/-- What one operation comes to, where it stands. -/
def StepOk (G : Ctx) (ops : Array Oper) (o : Oper) (s : St) (v : V) (upd : Tab) (rd : List Nat) : Prop :=
  (FxOk G o s v upd ∧ rd = opIds s o.op.operands.toList ∧ (∀ id ∈ rd, (get s.T id).isSome = true) ∧ match o.guard with
    | none => True
    | some (j, want) => ∃ oj dj, ops[j]? = some oj ∧ oj.dst = some dj ∧ dj < 1000000 ∧ get s.env dj = some (.c (.bool want))) ∨
  (v = .skip ∧ upd = [] ∧ rd = [] ∧ ∃ j want oj dj, o.guard = some (j, want) ∧ ops[j]? = some oj ∧ oj.dst = some dj ∧ dj < 1000000 ∧ (get s.env dj = some (.c (.bool (!want))) ∨ get s.env dj = some .skip))
def Disj (rdj wrj rd wr : List Nat) : Prop := (∀ x ∈ wrj, x ∉ rd ∧ x ∉ wr) ∧ ∀ x ∈ rdj, x ∉ wr
theorem meets_not {l m : List Nat} (h : meets l m = false) : ∀ x ∈ l, x ∉ m := by
  induction l with
  | nil => intro x hx; cases hx
  | cons y l ih =>
    simp only [meets, Bool.or_eq_false_iff] at h
    intro x hx hm
    cases hx with
    | head => rw [has_mem.2 hm] at h; cases h.1
    | tail _ hx => exact ih h.2 x hx hm
theorem logOk_spec {clo : Nat} {rd wr : List Nat} : ∀ {log : Log}, logOk clo rd wr log = true → ∀ j rdj wrj, (j, rdj, wrj) ∈ log → inM clo j = true ∨ Disj rdj wrj rd wr
  | [], _, _, _, _, h => by cases h
  | (k, a, b) :: log, h, j, rdj, wrj, hm => by
    simp only [logOk, Bool.and_eq_true, Bool.or_eq_true, Bool.not_eq_true', Bool.or_eq_false_iff] at h
    cases hm with
    | head => exact h.1.imp id fun h => ⟨fun x hx => ⟨meets_not h.1.1 x hx, meets_not h.1.2 x hx⟩, meets_not h.2⟩
    | tail _ hm => exact logOk_spec h.2 j rdj wrj hm
theorem keys_mem {α : Type} : ∀ {l : List (Nat × α)} {k : Nat}, k ∈ keys l ↔ (get l k).isSome = true
  | [], k => by simp [keys, get]
  | (i, x) :: l, k => by
    simp only [keys, List.mem_cons, get_cons, keys_mem]
    by_cases e : i = k
    · simp [e]
    · rw [if_neg e]
      constructor
      · rintro (h | h)
        · exact absurd h.symm e
        · exact h
      · exact .inr
theorem allIn_spec {T : Tab} : ∀ {l : List Nat}, allIn T l = true → ∀ id ∈ l, (get T id).isSome = true
  | [], _, _, h => by cases h
  | i :: l, h, id, hm => by
    simp only [allIn, Bool.and_eq_true] at h
    cases hm with
    | head => exact h.1
    | tail _ hm => exact allIn_spec h.2 id hm
theorem fxStep_spec {clo i : Nat} {log : Log} {o : Oper} {s : St} {K : Log → St → Option ρ} (h : fxStep G clo i log o s K = some r) : ∃ v upd, FxOk G o s v upd ∧ (∀ id ∈ opIds s o.op.operands.toList, (get s.T id).isSome = true) ∧
    (∀ j rdj wrj, (j, rdj, wrj) ∈ log → inM clo j = true ∨ Disj rdj wrj (opIds s o.op.operands.toList) (keys upd)) ∧ K ((i, opIds s o.op.operands.toList, keys upd) :: log) (putV G.n ⟨s.env, apply upd s.T⟩ o.dst v) = some r := by
  obtain ⟨v, upd, hk, hf⟩ := fxK_ok h
  rcases ble_of hk with ⟨hb, hk⟩ | ⟨_, hk⟩
  case inr => cases hk
  simp only [Bool.and_eq_true] at hb
  exact ⟨v, upd, hf, allIn_spec hb.1, logOk_spec hb.2, hk⟩
/-- The states that the run in the text's order passes. -/
structure Trace (G : Ctx) (ops : Array Oper) (ms : List Nat) (m : Nat) (st : Nat → St) (rd wr : Nat → List Nat) : Prop where
  step : ∀ (i : Nat) o, i < m → ops[i]? = some o → ∃ v upd, StepOk G ops o (st i) v upd (rd i) ∧ wr i = keys upd ∧ (∀ t, get (st (i + 1)).env t = if o.dst = some t ∧ t < G.n then some v else get (st i).env t) ∧ ∀ k, get (st (i + 1)).T k = (get upd k).or (get (st i).T k)
  apart : ∀ j i, j < i → i < m → inM (ms.getD i 0) j = true ∨ Disj (rd j) (wr j) (rd i) (wr i)
theorem getT_lt {e : Env} {i : Nat} {v : V} (h : getT e i = some v) : i < 1000000 ∧ get e i = some v := getT_get h
def Run (G : Ctx) (ops : Array Oper) (ms : List Nat) (m : Nat) (K : St → Option ρ) (r : ρ) (l : List Oper) (i0 : Nat) (s : St) (log : Log) : Prop :=
    ∃ (st : Nat → St) (rd wr : Nat → List Nat), st 0 = s ∧ (∀ (k : Nat) o, k < m - i0 → l[k]? = some o → ∃ v upd, StepOk G ops o (st k) v upd (rd k) ∧ wr k = keys upd ∧ (∀ t, get (st (k + 1)).env t = if o.dst = some t ∧ t < G.n then some v else get (st k).env t) ∧ ∀ q, get (st (k + 1)).T q = (get upd q).or (get (st k).T q)) ∧
      (∀ j rdj wrj, (j, rdj, wrj) ∈ log → ∀ k, k < m - i0 → inM (ms.getD (i0 + k) 0) j = true ∨ Disj rdj wrj (rd k) (wr k)) ∧
      (∀ j k, j < k → k < m - i0 → inM (ms.getD (i0 + k) 0) (i0 + j) = true ∨ Disj (rd j) (wr j) (rd k) (wr k)) ∧ aOps G ops (l.drop (m - i0)) (st (m - i0)) K = some r
theorem trace_of {ops : Array Oper} {ms : List Nat} {m : Nat} {K : St → Option ρ} : ∀ (l : List Oper) (i0 : Nat) (s : St) (log : Log), (∀ (k : Nat) o, l[k]? = some o → ops[i0 + k]? = some o) → i0 ≤ m → m ≤ i0 + l.length → aOpsD G ops ms m i0 log l s K = some r →
    Run G ops ms m K r l i0 s log
  | [], i0, s, log, _, h1, h2, h => by
    have : m - i0 = 0 := by simp at h2; omega
    simp only [aOpsD] at h
    unfold Run
    rw [this]
    exact ⟨fun _ => s, fun _ => [], fun _ => [], rfl, fun k o hk _ => by omega, fun _ _ _ _ k hk => by omega, fun j k _ hk => by omega, by simpa [aOps] using h⟩
  | o :: l, i0, s, log, hl, h1, h2, h => by
    by_cases hlt : i0 < m
    · simp only [aOpsD, Nat.blt_eq.mpr hlt, cond_true] at h
      have hm1 : m - i0 = (m - (i0 + 1)) + 1 := by omega
      have hl' : ∀ (k : Nat) o, l[k]? = some o → ops[i0 + 1 + k]? = some o := fun k o hk => by
        have := hl (k + 1) o (by simpa using hk)
        rwa [show i0 + 1 + k = i0 + (k + 1) by omega]
      -- one step, then the others
      have go : ∀ s1 v upd rd0 log', StepOk G ops o s v upd rd0 → (∀ t, get s1.env t = if o.dst = some t ∧ t < G.n then some v else get s.env t) → (∀ q, get s1.T q = (get upd q).or (get s.T q)) → (∀ j rdj wrj, (j, rdj, wrj) ∈ log → inM (ms.getD i0 0) j = true ∨ Disj rdj wrj rd0 (keys upd)) → (∀ x, x ∈ log → x ∈ log') → ((i0, rd0, keys upd) ∈ log' ∨ (rd0 = [] ∧ upd = [])) → aOpsD G ops ms m (i0 + 1) log' l s1 K = some r →
          Run G ops ms m K r (o :: l) i0 s log := fun s1 v upd rd0 log' hs he hT hd hsub hin hr => by
        obtain ⟨st, rd, wr, e0, e1, e2, e3, e4⟩ := trace_of l (i0 + 1) s1 log' hl' (by omega) (by simp at h2; omega) hr
        refine ⟨fun k => match k with | 0 => s | k + 1 => st k, fun k => match k with | 0 => rd0 | k + 1 => rd k, fun k => match k with | 0 => keys upd | k + 1 => wr k, rfl, fun k o' hk ho => ?_, fun j rdj wrj hm k hk => ?_, fun j k hjk hk => ?_, ?_⟩
        · cases k with
          | zero =>
            simp at ho
            subst ho
            exact ⟨v, upd, hs, rfl, fun t => by
              show get (st 0).env t = _
              rw [e0]
              exact he t, fun q => by
              show get (st 0).T q = _
              rw [e0]
              exact hT q⟩
          | succ k => exact e1 k o' (by omega) (by simpa using ho)
        · cases k with
          | zero => exact hd j rdj wrj hm
          | succ k =>
            have := e2 j rdj wrj (hsub _ hm) k (by omega)
            rwa [show i0 + 1 + k = i0 + (k + 1) by omega] at this
        · cases k with
          | zero => omega
          | succ k =>
            cases j with
            | zero =>
              rcases hin with hin | ⟨h3, h4⟩
              · have := e2 _ _ _ hin k (by omega)
                rwa [show i0 + 1 + k = i0 + (k + 1) by omega] at this
              · subst h3 h4
                exact .inr ⟨fun x hx => (by simp [keys] at hx), fun x hx => (by cases hx)⟩
            | succ j =>
              have := e3 j k (by omega) (by omega)
              rwa [show i0 + 1 + k = i0 + (k + 1) by omega, show i0 + 1 + j = i0 + (j + 1) by omega] at this
        · rw [hm1]
          exact e4
      have doit : ∀ s0, Same s s0 → (fxStep G (ms.getD i0 0) i0 log o s0 fun log' s' => aOpsD G ops ms m (i0 + 1) log' l s' K) = some r → (match o.guard with
          | none => True
          | some (j, want) => ∃ oj dj, ops[j]? = some oj ∧ oj.dst = some dj ∧ dj < 1000000 ∧ get s.env dj = some (.c (.bool want))) → Run G ops ms m K r (o :: l) i0 s log := fun s0 hs0 hx hg => by
        obtain ⟨v, upd, hf, hin, hlog, hk⟩ := fxStep_spec hx
        rw [hs0.opIds] at hin hlog hk
        exact go _ v upd _ _ (.inl ⟨hf.same hs0, rfl, fun id hid => by rw [← hs0.T]; exact hin id hid, hg⟩) (fun t => by rw [putV_get]; simp only []; rw [hs0.env]) (fun q => by rw [putV_T]; simp only [Go.Proofs.Ytfmfgomijjibgaa.Abs.apply]; rw [get_app_or, hs0.T]) hlog (fun x hx => List.mem_cons_of_mem _ hx) (.inl List.mem_cons_self) hk
      have pass : ∀ s0, Same s s0 → aOpsD G ops ms m (i0 + 1) log l (putV G.n s0 o.dst .skip) K = some r → (∃ j want oj dj, o.guard = some (j, want) ∧ ops[j]? = some oj ∧ oj.dst = some dj ∧ dj < 1000000 ∧ (get s.env dj = some (.c (.bool (!want))) ∨ get s.env dj = some .skip)) → Run G ops ms m K r (o :: l) i0 s log := fun s0 hs0 hx hg =>
        go _ .skip [] [] log (.inr ⟨rfl, rfl, rfl, hg⟩) (fun t => by rw [putV_get, hs0.env]) (fun q => by rw [putV_T, hs0.T]; rfl) (fun _ _ _ _ => .inr ⟨fun x _ => ⟨fun h => (by cases h), fun h => (by simp [keys] at h)⟩, fun x _ h => (by simp [keys] at h)⟩) (fun x hx => hx) (.inr ⟨rfl, rfl⟩) hx
      split at h
      · rename_i hg
        exact doit s (.refl s) h (by rw [hg]; trivial)
      · rename_i j want hg
        split at h
        case h_2 => cases h
        rename_i oj hj
        split at h
        case h_2 => cases h
        rename_i dj hdj
        split at h
        · rename_i b hb
          obtain ⟨hlt', hb'⟩ := getT_get hb
          have hs0 := lit_get hdj hb'
          cases b with
          | true =>
            simp only [if_true] at h
            cases want with
            | true => exact doit _ hs0 h (by rw [hg]; exact ⟨oj, dj, hj, hdj, hlt', hb'⟩)
            | false => exact pass _ hs0 h ⟨j, false, oj, dj, hg, hj, hdj, hlt', .inl hb'⟩
          | false =>
            simp only [Bool.false_eq_true, if_false] at h
            cases want with
            | true => exact pass _ hs0 h ⟨j, true, oj, dj, hg, hj, hdj, hlt', .inl hb'⟩
            | false => exact doit _ hs0 h (by rw [hg]; exact ⟨oj, dj, hj, hdj, hlt', hb'⟩)
        · rename_i hb
          obtain ⟨hlt', hb'⟩ := getT_get hb
          exact pass s (.refl s) h ⟨j, want, oj, dj, hg, hj, hdj, hlt', .inr hb'⟩
        · cases h
    · have hmi : m - i0 = 0 := by omega
      have hb : Nat.blt i0 m = false := by
        rw [← Bool.not_eq_true, Nat.blt_eq]
        exact hlt
      simp only [aOpsD, hb, cond_false] at h
      unfold Run
      rw [hmi]
      exact ⟨fun _ => s, fun _ => [], fun _ => [], rfl, fun k o hk _ => by omega, fun _ _ _ _ k hk => by omega, fun j k _ hk => by omega, h⟩
end
end Go.Proofs.Ytfmfgomijjibgaa.Abs
end

section
namespace Go.Proofs.Ytfmfgomijjibgaa.Abs
open Go.RowKit

section
variable {ρ : Type} {G : Ctx} {fr : Fr} {r : ρ} {ops : Array Oper} {ms : List Nat} {m : Nat} {st : Nat → St} {rd wr : Nat → List Nat}

/-- Operation j writes slot t. -/
def W (G : Ctx) (ops : Array Oper) (j t : Nat) : Prop := ∃ o, ops[j]? = some o ∧ o.dst = some t ∧ t < G.n
theorem W.uniq (C : Calm ops ms m) {j i t : Nat} (hj : j < m) (hi : i < m) (h : W G ops j t) (k : W G ops i t) : j = i := by
  obtain ⟨oj, h1, h2, _⟩ := h
  obtain ⟨oi, k1, k2, _⟩ := k
  rcases Nat.lt_trichotomy j i with hlt | e | hlt
  · have := C.pairs j i oj oi hlt hi h1 k1
    simp only [pairB, Bool.and_eq_true, h2, k2, neB, Nat.beq_refl] at this
    cases this.2
  · exact e
  · have := C.pairs i j oi oj hlt hj k1 h1
    simp only [pairB, Bool.and_eq_true, h2, k2, neB, Nat.beq_refl] at this
    cases this.2
theorem op_at (C : Calm ops ms m) {i : Nat} (hi : i < m) : ∃ o, ops[i]? = some o := ⟨_, Array.getElem?_eq_getElem (Nat.lt_of_lt_of_le hi C.le)⟩
theorem tr_next (C : Calm ops ms m) (Tr : Trace G ops ms m st rd wr) {i : Nat} (hi : i < m) {t : Nat} (h : ¬ W G ops i t) : get (st (i + 1)).env t = get (st i).env t := by
  obtain ⟨o, ho⟩ := op_at C hi
  obtain ⟨v, upd, _, _, hv, _⟩ := Tr.step i o hi ho
  rw [hv, if_neg]
  exact fun hd => h ⟨o, ho, hd.1, hd.2⟩
theorem tr_no (C : Calm ops ms m) (Tr : Trace G ops ms m st rd wr) {t : Nat} : ∀ {i : Nat}, i ≤ m → (∀ j, j < i → ¬ W G ops j t) → get (st i).env t = get (st 0).env t
  | 0, _, _ => rfl
  | i + 1, hi, h => by
    rw [tr_next C Tr (by omega) (h i (by omega))]
    exact tr_no C Tr (by omega) fun j hj => h j (by omega)
theorem tr_yes (C : Calm ops ms m) (Tr : Trace G ops ms m st rd wr) {j t : Nat} (hj : W G ops j t) : ∀ {i : Nat}, j < i → i ≤ m → get (st i).env t = get (st (j + 1)).env t
  | 0, h, _ => by omega
  | i + 1, h, hi => by
    by_cases e : j = i
    · rw [e]
    · rw [tr_next C Tr (by omega) (fun hw => e (W.uniq C (by omega) (by omega) hj hw))]
      exact tr_yes C Tr hj (by omega) (by omega)
theorem tab_next (C : Calm ops ms m) (Tr : Trace G ops ms m st rd wr) {i : Nat} (hi : i < m) {id : Nat} (h : id ∉ wr i) : get (st (i + 1)).T id = get (st i).T id := by
  obtain ⟨o, ho⟩ := op_at C hi
  obtain ⟨v, upd, _, hw, _, hT⟩ := Tr.step i o hi ho
  rw [hT]
  rw [hw, keys_mem] at h
  cases hg : get upd id with
  | none => rfl
  | some ob => rw [hg] at h; exact absurd rfl h
theorem tab_no (C : Calm ops ms m) (Tr : Trace G ops ms m st rd wr) {id : Nat} : ∀ {i : Nat}, i ≤ m → (∀ j, j < i → id ∉ wr j) → get (st i).T id = get (st 0).T id
  | 0, _, _ => rfl
  | i + 1, hi, h => by
    rw [tab_next C Tr (by omega) (h i (by omega))]
    exact tab_no C Tr (by omega) fun j hj => h j (by omega)
theorem tab_yes (C : Calm ops ms m) (Tr : Trace G ops ms m st rd wr) {j id : Nat} : ∀ {i : Nat}, j < i → i ≤ m → (∀ k, j < k → k < i → id ∉ wr k) → get (st i).T id = get (st (j + 1)).T id
  | 0, h, _, _ => by omega
  | i + 1, h, hi, hn => by
    by_cases e : j = i
    · rw [e]
    · rw [tab_next C Tr (by omega) (hn i (by omega) (by omega))]
      exact tab_yes C Tr (by omega) (by omega) fun k h1 h2 => hn k h1 (by omega)
/-- The last of those before i that has a property. -/
theorem last_of (p : Nat → Prop) : ∀ i : Nat, (∀ j, j < i → ¬ p j) ∨ ∃ j, j < i ∧ p j ∧ ∀ k, j < k → k < i → ¬ p k
  | 0 => .inl fun j hj => by omega
  | i + 1 => by
    by_cases h : p i
    · exact .inr ⟨i, by omega, h, fun k h1 h2 => by omega⟩
    · rcases last_of p i with h1 | ⟨j, h1, h2, h3⟩
      · refine .inl fun j hj => ?_
        by_cases e : j = i
        · rw [e]; exact h
        · exact h1 j (by omega)
      · refine .inr ⟨j, by omega, h2, fun k hk1 hk2 => ?_⟩
        by_cases e : k = i
        · rw [e]; exact h
        · exact h3 k hk1 (by omega)

/-- The state in which the operations of D have been carried out. -/
structure At (G : Ctx) (ops : Array Oper) (m : Nat) (st : Nat → St) (wr : Nat → List Nat) (D : Nat → Prop) (s : St) : Prop where
  T : ∀ id, (∀ j, D j → j < m → id ∉ wr j) → get s.T id = get (st 0).T id
  Tw : ∀ j id, D j → j < m → id ∈ wr j → (∀ k, D k → k < m → j < k → id ∉ wr k) → get s.T id = get (st (j + 1)).T id
  yes : ∀ j t, D j → j < m → W G ops j t → get s.env t = get (st m).env t
  no : ∀ t, (∀ j, D j → j < m → ¬ W G ops j t) → get s.env t = get (st 0).env t
theorem away_not {d : Option Nat} {l : List Nat} {t : Nat} (h : awayB d l = true) (hd : d = some t) : t ∉ l := by
  subst hd
  simp only [awayB, Bool.not_eq_true'] at h
  intro hm
  rw [has_mem.2 hm] at h
  cases h
theorem look_at (C : Calm ops ms m) (Tr : Trace G ops ms m st rd wr) {D : Nat → Prop} {s : St} (A : At G ops m st wr D s) (hc : Closed ops D) {i : Nat} (hi : i < m) {o : Oper} (ho : ops[i]? = some o) (hn : ¬ D i) (hd : ∀ e ∈ o.after.toList, grAny e.ground = true → D e.on) :
    ∀ t ∈ looksL ops.toList o, get s.env t = get (st i).env t := by
  intro t ht
  by_cases h : ∃ j, D j ∧ j < m ∧ W G ops j t
  · obtain ⟨j, hDj, hjm, hw⟩ := h
    rw [A.yes j t hDj hjm hw]
    have hne : j ≠ i := fun e => hn (e ▸ hDj)
    rcases Nat.lt_or_gt_of_ne hne with hlt | hgt
    · rw [tr_yes C Tr hw hjm (Nat.le_refl m), tr_yes C Tr hw hlt (by omega)]
    · exfalso
      obtain ⟨oj, h1, h2, _⟩ := hw
      have := C.pairs i j o oj hgt hjm ho h1
      simp only [pairB, Bool.and_eq_true, Bool.or_eq_true] at this
      rcases this.1 with hb | ⟨_, hb⟩
      · exact hn (clo_mem C hc hDj (Nat.lt_of_lt_of_le hjm C.le) hb)
      · exact away_not hb h2 ht
  · rw [A.no t (fun j hD hj hw => h ⟨j, hD, hj, hw⟩)]
    refine (tr_no C Tr (by omega) fun k hk hw => ?_).symm
    obtain ⟨ok, h1, h2, h3⟩ := hw
    have := C.pairs k i ok o hk hi h1 ho
    simp only [pairB, Bool.and_eq_true, Bool.or_eq_true] at this
    rcases this.1 with hb | ⟨hb, _⟩
    · exact h ⟨k, clo_in C hc (i + 1) i o (by omega) ho hd k hb, by omega, ok, h1, h2, h3⟩
    · exact away_not hb h2 ht
/-- What an operation touches is as it is in the run in the text's order. -/
theorem tab_at (C : Calm ops ms m) (Tr : Trace G ops ms m st rd wr) {D : Nat → Prop} {s : St} (A : At G ops m st wr D s) (hc : Closed ops D) {i : Nat} (hi : i < m) {o : Oper} (ho : ops[i]? = some o) (hn : ¬ D i) (hd : ∀ e ∈ o.after.toList, grAny e.ground = true → D e.on) {id : Nat} (hid : id ∈ rd i ∨ id ∈ wr i) :
    get s.T id = get (st i).T id := by
  -- those that have been carried out and write it stand before i
  have hbefore : ∀ j, D j → j < m → id ∈ wr j → j < i := fun j hDj hjm hw => by
    have hne : j ≠ i := fun e => hn (e ▸ hDj)
    rcases Nat.lt_or_gt_of_ne hne with h | h
    · exact h
    · exfalso
      rcases Tr.apart i j h hjm with hb | hb
      · exact hn (clo_mem C hc hDj (Nat.lt_of_lt_of_le hjm C.le) hb)
      · rcases hid with hid | hid
        · exact hb.2 id hid hw
        · exact (hb.1 id hid).2 hw
  have hthere : ∀ j, j < i → id ∈ wr j → D j := fun j hj hw => by
    rcases Tr.apart j i hj hi with hb | hb
    · exact clo_in C hc (i + 1) i o (by omega) ho hd j hb
    · exfalso
      rcases hid with hid | hid
      · exact (hb.1 id hw).1 hid
      · exact (hb.1 id hw).2 hid
  rcases last_of (fun j => id ∈ wr j) i with h | ⟨j, h1, h2, h3⟩
  · rw [tab_no C Tr (by omega) h]
    exact A.T id fun j hD hjm hw => h j (hbefore j hD hjm hw) hw
  · rw [tab_yes C Tr h1 (by omega) h3]
    exact A.Tw j id (hthere j h1 h2) (by omega) h2 fun k hD hkm hjk hw => h3 k hjk (hbefore k hD hkm hw) hw
theorem tmpsL_mem : ∀ {l : List Operand} {t : Nat}, Operand.tmp t ∈ l → t ∈ tmpsL l
  | x :: l, t, h => by
    cases h with
    | head => exact List.mem_cons_self
    | tail _ h =>
      have := tmpsL_mem h
      cases x <;> simp only [tmpsL] <;> first | exact List.mem_cons_of_mem _ this | exact this
theorem looks_ops {l : List Oper} {o : Oper} {t : Nat} (h : t ∈ tmpsL o.op.operands.toList) : t ∈ looksL l o := by
  unfold looksL
  split
  · exact h
  · split
    · split
      · exact List.mem_cons_of_mem _ h
      · exact h
    · exact h
theorem looks_guard {o oj : Oper} {j d : Nat} {want : Bool} (hg : o.guard = some (j, want)) (hj : ops[j]? = some oj) (hd : oj.dst = some d) : d ∈ looksL ops.toList o := by
  have hj' : ops.toList[j]? = some oj := by simpa using hj
  unfold looksL
  rw [hg]
  simp only [hj', hd]
  exact List.mem_cons_self

theorem calm_step (H : TIs fr.P G) (HC : ∀ f F, get G.calls f = some F → CallOk fr.P f F) (hn : G.n = fr.n) (C : Calm ops ms m) (Tr : Trace G ops ms m st rd wr) {Q : Exit → Act → World → Prop} {D : Nat → Prop} {s : St} (A : At G ops m st wr D s) (hc : Closed ops D) {i : Nat} (hi : i < m) {o : Oper} (ho : ops[i]? = some o) (hni : ¬ D i) (hd : ∀ e ∈ o.after.toList, grAny e.ground = true → D e.on)
    {σ : Nat → Value} {a : Act} {w : World} (R : RelS fr σ s a w) {Kp : Act → World → Prop} (hK : ∀ σ s a w, RelS fr σ s a w → At G ops m st wr (fun j => D j ∨ j = i) s → Kp a w) : wpOp fr.P ops Q i Kp a w := by
  obtain ⟨v, upd, hs, hwr, hv, hT⟩ := Tr.step i o hi ho
  have hlook := look_at C Tr A hc hi ho hni hd
  have htab := fun id hid => tab_at C Tr A hc hi ho hni hd (id := id) hid
  -- the state behind it
  have after : ∀ T', (∀ k, get T' k = (get upd k).or (get s.T k)) → At G ops m st wr (fun j => D j ∨ j = i) (putV G.n ⟨s.env, T'⟩ o.dst v) := fun T' hT' => by
    have hnotw : ∀ {id : Nat}, id ∉ wr i → get T' id = get s.T id := fun {id} h => by
      rw [hT']
      rw [hwr, keys_mem] at h
      cases hg : get upd id with
      | none => rfl
      | some ob => rw [hg] at h; exact absurd rfl h
    refine ⟨fun id hno => ?_, fun j id hj hjm hw hlast => ?_, fun j t hj hjm hw => ?_, fun t hno => ?_⟩
    · rw [putV_T]
      show get T' id = _
      rw [hnotw (hno i (.inr rfl) hi)]
      exact A.T id fun j hD hj => hno j (.inl hD) hj
    · rw [putV_T]
      show get T' id = _
      by_cases hwi : id ∈ wr i
      · -- the last that writes it is this one
        have e : j = i := by
          rcases hj with hD | h
          · exfalso
            have hne : j ≠ i := fun e => hni (e ▸ hD)
            rcases Nat.lt_or_gt_of_ne hne with h | h
            · exact hlast i (.inr rfl) hi h hwi
            · rcases Tr.apart i j h hjm with hb | hb
              · exact hni (clo_mem C hc hD (Nat.lt_of_lt_of_le hjm C.le) hb)
              · exact (hb.1 id hwi).2 hw
          · exact h
        subst e
        rw [hT', hT]
        rw [hwr, keys_mem] at hwi
        cases hg : get upd id with
        | none => rw [hg] at hwi; cases hwi
        | some ob => rfl
      · rw [hnotw hwi]
        rcases hj with hD | h
        · exact A.Tw j id hD hjm hw fun k hk => hlast k (.inl hk)
        · subst h; exact absurd hw hwi
    · rw [putV_get]
      by_cases e : o.dst = some t ∧ t < G.n
      · rw [if_pos e]
        have hwi : W G ops i t := ⟨o, ho, e.1, e.2⟩
        rw [tr_yes C Tr hwi hi (Nat.le_refl m), hv, if_pos e]
      · rw [if_neg e]
        rcases hj with hj | rfl
        · exact A.yes j t hj hjm hw
        · exfalso
          obtain ⟨o', h1, h2, h3⟩ := hw
          rw [ho] at h1
          cases h1
          exact e ⟨h2, h3⟩
    · rw [putV_get, if_neg (fun e => hno i (.inr rfl) hi ⟨o, ho, e.1, e.2⟩)]
      exact A.no t fun j hD hj => hno j (.inl hD) hj
  have doit : FxOk G o (st i) v upd → rd i = opIds (st i) o.op.operands.toList → Region.wanted o (yielded ops a.tmps) = true → wpOp fr.P ops Q i Kp a w := fun hf hrd hw => by
    unfold wpOp
    simp only [ho]
    rw [if_pos hw]
    left
    have hlike : Like o (st i) s := ⟨fun x hx => by
      cases x with
      | tmp t =>
        have := hlook t (looks_ops (tmpsL_mem (by simpa using hx)))
        simp only [ev, getT, this]
      | _ => rfl, fun id hid => htab id (.inl (by rw [hrd]; exact hid))⟩
    obtain ⟨T', hop, hT'⟩ := hf s hlike fun k hk hn => by
      rw [htab k (.inr (by rw [hwr, keys_mem]; exact hk))]
      exact hn
    have h1 : opK G o s (fun v s' => some (v, s')) = some (v, ⟨s.env, T'⟩) := hop _ _
    refine opK_sound R H HC h1 _ _ fun v' s' σ' u w' hk R' hV => ?_
    cases hk
    refine hK σ' _ _ w' ?_ (after T' hT')
    rw [hn]
    exact R'.dest hV o.dst
  have pass : v = .skip → upd = [] → Region.wanted o (yielded ops a.tmps) = false → wpOp fr.P ops Q i Kp a w := fun hvs hup hw => by
    unfold wpOp
    simp only [ho]
    rw [if_neg (by rw [hw]; simp)]
    have := after s.T (fun k => by rw [hup]; rfl)
    subst hvs
    refine hK σ _ _ w ?_ this
    rw [hn]
    exact R.dest (v := .skip) rfl o.dst
  rcases hs with ⟨hf, hrd, _, hg⟩ | ⟨hvs, hup, _, j, want, oj, dj, hg, hj, hdj, hlt, hcase⟩
  · split at hg
    · rename_i hgd
      exact doit hf hrd (by simp [Region.wanted, hgd])
    · rename_i j want hgd
      obtain ⟨oj, dj, hj, hdj, hlt, hb⟩ := hg
      have hgs := hlook dj (looks_guard hgd hj hdj)
      rw [hb] at hgs
      have hgT := (getT_of (e := s.env) hlt).trans hgs
      have hy := yielded_bool hj hdj (R.envT hgT)
      exact doit hf hrd (by simp [Region.wanted, hgd, hy])
  · have hgs := hlook dj (looks_guard hg hj hdj)
    rcases hcase with hb | hb
    · rw [hb] at hgs
      have hgT := (getT_of (e := s.env) hlt).trans hgs
      have hy := yielded_bool hj hdj (R.envT hgT)
      exact pass hvs hup (by simp [Region.wanted, hg, hy])
    · rw [hb] at hgs
      have hgT := (getT_of (e := s.env) hlt).trans hgs
      have hy := yielded_skip hj hdj (R.envT hgT)
      exact pass hvs hup (by simp [Region.wanted, hg, hy])
end
end Go.Proofs.Ytfmfgomijjibgaa.Abs
end

section
namespace Go.Proofs.Ytfmfgomijjibgaa.Abs
open Go.RowKit

section
variable {ρ : Type} {G : Ctx} {fr : Fr} {r : ρ} {ops : Array Oper} {ms : List Nat} {m : Nat} {st : Nat → St} {rd wr : Nat → List Nat}

theorem RelS.congrE {σ : Nat → Value} {s s' : St} {a : Act} {w : World} (R : RelS fr σ s a w) (hT : ∀ i, get s'.T i = get s.T i) (h : ∀ t, get s'.env t = get s.env t) : RelS fr σ s' a w := by
  have R1 := R.congr (T' := s'.T) hT
  exact ⟨R1.kept, R1.fa, R1.dist, R1.objs, fun i v hi => R1.env i v (by rw [← h]; exact hi), R1.tmps, R1.small, R1.defers⟩
theorem aOps_step (H : TIs fr.P G) (HC : ∀ f F, get G.calls f = some F → CallOk fr.P f F) (hn : G.n = fr.n) {Q : Exit → Act → World → Prop} {K : St → Option ρ} {o : Oper} {l : List Oper} {i : Nat} (h0 : ops[i]? = some o) {σ : Nat → Value} {s : St} {a : Act} {w : World} (h : aOps G ops (o :: l) s K = some r) (R : RelS fr σ s a w)
    {Kp : Act → World → Prop} (hK : ∀ σ s a w, aOps G ops l s K = some r → RelS fr σ s a w → Kp a w) : wpOp fr.P ops Q i Kp a w := by
  have doit : ∀ s, RelS fr σ s a w → (opK G o s fun v s' => aOps G ops l (putV G.n s' o.dst v) K) = some r → Region.wanted o (yielded ops a.tmps) = true → wpOp fr.P ops Q i Kp a w := fun s R h hw => by
    unfold wpOp
    simp only [h0]
    rw [if_pos hw]
    left
    refine opK_sound R H HC h _ _ fun v s' σ' u w' hk R' hV => ?_
    refine hK σ' _ _ w' hk ?_
    rw [hn]
    exact R'.dest hV o.dst
  have pass : ∀ s, RelS fr σ s a w → aOps G ops l (putV G.n s o.dst .skip) K = some r → Region.wanted o (yielded ops a.tmps) = false → wpOp fr.P ops Q i Kp a w := fun s R h hw => by
    unfold wpOp
    simp only [h0]
    rw [if_neg (by rw [hw]; simp)]
    refine hK σ _ _ w h ?_
    rw [hn]
    exact R.dest (v := .skip) rfl o.dst
  rw [aOps] at h
  split at h
  · rename_i hg
    exact doit s R h (by simp [Region.wanted, hg])
  · rename_i j want hg
    split at h
    case h_2 => cases h
    rename_i oj hj
    split at h
    case h_2 => cases h
    rename_i dj hdj
    split at h
    · rename_i b hb
      have hy := yielded_bool hj hdj (R.envT hb)
      have hw : Region.wanted o (yielded ops a.tmps) = (b == want) := by
        simp only [Region.wanted, hg, hy]
        cases b <;> cases want <;> rfl
      cases b with
      | true =>
        simp only [if_true] at h
        have R' := R.lit hdj (getT_get hb).2
        cases want with
        | true => exact doit _ R' h (by rw [hw]; rfl)
        | false => exact pass _ R' h (by rw [hw]; rfl)
      | false =>
        simp only [Bool.false_eq_true, if_false] at h
        have R' := R.lit hdj (getT_get hb).2
        cases want with
        | true => exact pass _ R' h (by rw [hw]; rfl)
        | false => exact doit _ R' h (by rw [hw]; rfl)
    · rename_i hb
      have hy := yielded_skip hj hdj (R.envT hb)
      exact pass s R h (by simp [Region.wanted, hg, hy])
    · cases h

def Ls (listed : Array Bool) (i : Nat) : Prop := listed.getD i false = true
noncomputable def unl (ops : Array Oper) (listed : Array Bool) : List Nat := (List.range ops.size).filter fun i => !listed.getD i false
theorem Ls_set {listed : Array Bool} {i : Nat} (hi : i < listed.size) : Ls (listed.setIfInBounds i true) = fun j => Ls listed j ∨ j = i := by
  funext j
  apply propext
  unfold Ls
  by_cases e : i = j
  · subst e
    simp [hi]
  · rw [getD_set_ne false e]
    constructor
    · exact .inl
    · rintro (h | h)
      · exact h
      · exact absurd h.symm e
theorem unl_lt {listed : Array Bool} {i : Nat} (hs : listed.size = ops.size) (hi : i < ops.size) (hn : ¬ Ls listed i) : (unl ops (listed.setIfInBounds i true)).length < (unl ops listed).length := by
  have key : ∀ (l : List Nat), l.Nodup → i ∈ l → (l.filter fun j => !(listed.setIfInBounds i true).getD j false).length < (l.filter fun j => !listed.getD j false).length := fun l => by
    induction l with
    | nil => intro _ h; cases h
    | cons x l ih =>
      intro hnd hm
      have hnd := List.nodup_cons.1 hnd
      by_cases e : i = x
      · subst e
        have h1 : (!(listed.setIfInBounds i true).getD i false) = false := by simp [hs, hi]
        have h2 : (!listed.getD i false) = true := by
          cases hb : listed.getD i false with
          | true => exact absurd hb hn
          | false => rfl
        rw [List.filter_cons, List.filter_cons, h1, h2]
        simp only [Bool.false_eq_true, if_false, if_true, List.length_cons]
        have : (l.filter fun j => !(listed.setIfInBounds i true).getD j false) = l.filter fun j => !listed.getD j false := List.filter_congr fun j hj => by
          rw [getD_set_ne false (fun e : i = j => hnd.1 (by rw [e]; exact hj))]
        rw [this]
        omega
      · have hm' : i ∈ l := by
          cases hm with
          | head => exact absurd rfl e
          | tail _ h => exact h
        have := ih hnd.2 hm'
        rw [List.filter_cons, List.filter_cons, getD_set_ne false e]
        split
        · simp only [List.length_cons]; omega
        · exact this
  exact key _ List.nodup_range (List.mem_range.2 hi)
theorem binds_any {md : Region.Mode} {e : Edge} (h : grAny e.ground = true) : Region.binds md e = true := by
  unfold Region.binds
  cases hg : e.ground <;> rw [hg] at h <;> first | rfl | cases h
theorem ready_of {md : Region.Mode} {listed : Array Bool} (hs : listed.size = ops.size) {i : Nat} (h : i ∈ Region.ready md ops listed) : ∃ o, ops[i]? = some o ∧ ¬ Ls listed i ∧ ∀ e ∈ o.after.toList, grAny e.ground = true → Ls listed e.on := by
  obtain ⟨h1, o, ho, h2⟩ := mem_ready.1 h
  have hi : i < ops.size := (Array.getElem?_eq_some_iff.1 ho).1
  refine ⟨o, ho, fun h => ?_, fun e he hg => h2 e (by simpa using he) (binds_any hg)⟩
  unfold Ls at h
  rw [Array.getD_eq_getD_getElem?, Array.getElem?_eq_getElem (by omega)] at h h1
  simp at h h1
  rw [h] at h1
  cases h1
theorem ready_mk {md : Region.Mode} {listed : Array Bool} (hs : listed.size = ops.size) {i : Nat} {o : Oper} (ho : ops[i]? = some o) (h1 : ¬ Ls listed i) (h2 : ∀ e ∈ o.after.toList, Region.binds md e = true → Ls listed e.on) : i ∈ Region.ready md ops listed := by
  have hi : i < ops.size := (Array.getElem?_eq_some_iff.1 ho).1
  refine mem_ready.2 ⟨?_, o, ho, fun e he hb => h2 e (by simpa using he) hb⟩
  unfold Ls at h1
  rw [Array.getD_eq_getD_getElem?, Array.getElem?_eq_getElem (by omega)] at h1 ⊢
  simpa using h1
theorem pick1_spec {L : Nat} : ∀ {gs : List Nat} {i0 i : Nat}, pick1 L i0 gs = some i → i0 ≤ i ∧ inM L i = false ∧ ∃ g, gs[i - i0]? = some g ∧ Nat.beq (Nat.land g L) g = true
  | [], _, _, h => by cases h
  | g :: gs, i0, i, h => by
    simp only [pick1] at h
    cases hb : (!inM L i0 && Nat.beq (Nat.land g L) g) with
    | true =>
      rw [hb] at h
      simp only [cond_true, Option.some.injEq] at h
      subst h
      simp only [Bool.and_eq_true, Bool.not_eq_true'] at hb
      exact ⟨Nat.le_refl _, hb.1, g, by simp, hb.2⟩
    | false =>
      rw [hb] at h
      simp only [cond_false] at h
      obtain ⟨h1, h2, g', h3, h4⟩ := pick1_spec h
      exact ⟨by omega, h2, g', by rw [show i - i0 = (i - (i0 + 1)) + 1 by omega]; simpa using h3, h4⟩
/-- Where nothing is ready, all is done. -/
theorem all_done (C : Calm ops ms m) {md : Region.Mode} {listed : Array Bool} (hs : listed.size = ops.size) (hr : Region.ready md ops listed = []) : ∀ i, i < ops.size → Ls listed i := by
  have byOrder : (∀ (i : Nat) o, ops[i]? = some o → ∀ e ∈ o.after.toList, Region.binds md e = true → e.on < i) → ∀ i, i < ops.size → Ls listed i := fun hlt => by
    have key : ∀ n i, i < n → i < ops.size → Ls listed i := fun n => by
      induction n with
      | zero => intro i hi; omega
      | succ n ihn =>
        intro i hi his
        by_cases hL : Ls listed i
        · exact hL
        · exfalso
          have ho := Array.getElem?_eq_getElem his
          have : i ∈ Region.ready md ops listed := ready_mk hs ho hL fun e he hb => by
            have := hlt i _ ho e he hb
            exact ihn e.on (by omega) (by omega)
          rw [hr] at this
          cases this
    exact fun i hi => key (i + 1) i (by omega) hi
  have txt : ∀ e : Edge, grTxt e.ground = false → ∃ row, e.ground = .gcOnly row := fun e h => by
    cases hg : e.ground <;> rw [hg] at h <;> first | exact ⟨_, rfl⟩ | cases h
  rcases C.gc with hp | hgc
  · exact byOrder fun i o ho e he _ => C.edges i o ho e he (by
      have := hp i o ho e he
      cases hg : e.ground <;> rw [hg] at this <;> first | rfl | cases this)
  · cases md with
    | any => exact byOrder fun i o ho e he hb => C.edges i o ho e he (by
        cases h : grTxt e.ground with
        | true => rfl
        | false =>
          obtain ⟨row, hg⟩ := txt e h
          rw [Region.binds, hg] at hb
          cases hb)
    | text => exact byOrder fun i o ho e he hb => C.edges i o ho e he (by
        cases h : grTxt e.ground with
        | true => rfl
        | false =>
          obtain ⟨row, hg⟩ := txt e h
          rw [Region.binds, hg] at hb
          cases hb)
    | gc =>
      have key : ∀ (f L : Nat), (∀ j, inM L j = true → Ls listed j) → ∀ j, inM (greedy (gcMs ops.toList) f L) j = true → Ls listed j := fun f => by
        induction f with
        | zero => intro L hL j hj; exact hL j hj
        | succ f ih =>
          intro L hL j hj
          simp only [greedy] at hj
          split at hj
          · rename_i i hp
            obtain ⟨_, h2, g, h3, h4⟩ := pick1_spec hp
            rw [Nat.sub_zero] at h3
            unfold gcMs at h3
            rw [List.getElem?_map] at h3
            cases ho' : ops.toList[i]? with
            | none => rw [ho'] at h3; cases h3
            | some o =>
              rw [ho'] at h3
              simp at h3
              subst h3
              have ho : ops[i]? = some o := by simpa using ho'
              have hi : Ls listed i := by
                by_cases hLi : Ls listed i
                · exact hLi
                · exfalso
                  have : i ∈ Region.ready .gc ops listed := ready_mk hs ho hLi fun e he hb => hL e.on (sub_spec h4 (edM_spec he (by
                    cases hg : e.ground <;> first | rfl | (rw [Region.binds, hg] at hb; cases hb))))
                  rw [hr] at this
                  cases this
              refine ih _ (fun k hk => ?_) j hj
              rw [inM_lor, inM_one] at hk
              simp only [Bool.or_eq_true, decide_eq_true_eq] at hk
              rcases hk with hk | rfl
              · exact hL k hk
              · exact hi
          · exact hL j hj
      exact fun i hi => key ops.size 0 (fun j hj => by rw [inM_zero] at hj; cases hj) i (allM_spec hgc hi)

theorem calm_any (H : TIs fr.P G) (HC : ∀ f F, get G.calls f = some F → CallOk fr.P f F) (hn : G.n = fr.n) (C : Calm ops ms m) (Tr : Trace G ops ms m st rd wr) {Q : Exit → Act → World → Prop} {K : St → Option ρ} (hQ : ∀ σ s a w, K s = some r → RelS fr σ s a w → Q .normal a w) (hrest : aOps G ops (ops.toList.drop m) (st m) K = some r) (md : Region.Mode) :
    ∀ (fuel : Nat) (listed : Array Bool) (a : Act) (w : World), listed.size = ops.size → (unl ops listed).length ≤ fuel → Closed ops (Ls listed) →
      (((∀ i, Ls listed i → i < m) ∧ ∃ σ s, RelS fr σ s a w ∧ At G ops m st wr (Ls listed) s) ∨ ∃ k, m ≤ k ∧ (∀ i, Ls listed i ↔ i < k) ∧ ∃ σ s, RelS fr σ s a w ∧ aOps G ops (ops.toList.drop k) s K = some r) → wpAny fr.P md ops Q fuel listed a w := by
  have full : ∀ (listed : Array Bool) (a : Act) (w : World), ((∀ i, Ls listed i → i < m) ∧ ∃ σ s, RelS fr σ s a w ∧ At G ops m st wr (Ls listed) s) → (∀ i, i < m → Ls listed i) → ∃ k, m ≤ k ∧ (∀ i, Ls listed i ↔ i < k) ∧ ∃ σ s, RelS fr σ s a w ∧ aOps G ops (ops.toList.drop k) s K = some r := fun listed a w hA hall => by
    obtain ⟨h1, σ, s, R, A⟩ := hA
    refine ⟨m, Nat.le_refl m, fun i => ⟨h1 i, hall i⟩, σ, st m, R.congrE (fun id => ?_) fun t => ?_, hrest⟩
    · rcases last_of (fun j => id ∈ wr j) m with h | ⟨j, g1, g2, g3⟩
      · rw [tab_no C Tr (Nat.le_refl m) h, A.T id fun j _ hj => h j hj]
      · rw [tab_yes C Tr g1 (Nat.le_refl m) g3, A.Tw j id (hall j g1) g1 g2 fun k _ hk hjk => g3 k hjk hk]
    · by_cases h : ∃ j, j < m ∧ W G ops j t
      · obtain ⟨j, hj, hw⟩ := h
        exact (A.yes j t (hall j hj) hj hw).symm
      · rw [A.no t fun j _ hj hw => h ⟨j, hj, hw⟩]
        exact tr_no C Tr (Nat.le_refl m) fun j hj hw => h ⟨j, hj, hw⟩
  have done : ∀ (listed : Array Bool) (a : Act) (w : World), (((∀ i, Ls listed i → i < m) ∧ ∃ σ s, RelS fr σ s a w ∧ At G ops m st wr (Ls listed) s) ∨ ∃ k, m ≤ k ∧ (∀ i, Ls listed i ↔ i < k) ∧ ∃ σ s, RelS fr σ s a w ∧ aOps G ops (ops.toList.drop k) s K = some r) → (∀ i, i < ops.size → Ls listed i) → Q .normal a w := fun listed a w hI hall => by
    have hB : ∃ k, m ≤ k ∧ (∀ i, Ls listed i ↔ i < k) ∧ ∃ σ s, RelS fr σ s a w ∧ aOps G ops (ops.toList.drop k) s K = some r := by
      rcases hI with hA | hB
      · exact full listed a w hA fun i hi => hall i (Nat.lt_of_lt_of_le hi C.le)
      · exact hB
    obtain ⟨k, _, hk, σ, s, R, hr⟩ := hB
    have hsz : ops.size ≤ k := by
      rcases Nat.lt_or_ge k ops.size with h | h
      · exact absurd ((hk k).1 (hall k h)) (by omega)
      · exact h
    rw [List.drop_eq_nil_of_le (by simpa using hsz)] at hr
    exact hQ σ s a w hr R
  intro fuel
  induction fuel with
  | zero =>
    intro listed a w hs hu hc hI
    have hnil : unl ops listed = [] := List.eq_nil_of_length_eq_zero (by omega)
    have hall : ∀ i, i < ops.size → Ls listed i := fun i hi => by
      cases hb : listed.getD i false with
      | true => exact hb
      | false =>
        have : i ∈ unl ops listed := List.mem_filter.2 ⟨List.mem_range.2 hi, by rw [hb]; rfl⟩
        rw [hnil] at this
        cases this
    refine ⟨List.eq_nil_iff_forall_not_mem.2 fun i hi => ?_, done listed a w hI hall⟩
    obtain ⟨o, ho, hni, _⟩ := ready_of hs hi
    exact hni (hall i (Array.getElem?_eq_some_iff.1 ho).1)
  | succ fuel ih =>
    intro listed a w hs hu hc hI
    refine ⟨fun hr => done listed a w hI (all_done C hs hr), fun i hi => ?_⟩
    obtain ⟨o, ho, hni, hd⟩ := ready_of hs hi
    have his : i < ops.size := (Array.getElem?_eq_some_iff.1 ho).1
    have hset : Ls (listed.setIfInBounds i true) = fun j => Ls listed j ∨ j = i := Ls_set (by omega)
    have hlt := unl_lt (ops := ops) hs his hni
    have hc' : Closed ops (Ls (listed.setIfInBounds i true)) := by
      rw [hset]
      intro j oj hj hoj e he hg
      rcases hj with hj | rfl
      · exact .inl (hc j oj hj hoj e he hg)
      · rw [ho] at hoj
        cases hoj
        exact .inl (hd e he hg)
    have before : ∀ k, inM (ms.getD i 0) k = true → Ls listed k := fun k hk => clo_in C hc (i + 1) i o (by omega) ho hd k hk
    have caseB : (∃ k, m ≤ k ∧ (∀ i, Ls listed i ↔ i < k) ∧ ∃ σ s, RelS fr σ s a w ∧ aOps G ops (ops.toList.drop k) s K = some r) → wpOp fr.P ops Q i (wpAny fr.P md ops Q fuel (listed.setIfInBounds i true)) a w := fun hB => by
      obtain ⟨k, hmk, hk, σ, s, R, hr⟩ := hB
      have hik : i = k := by
        have h1 : ¬ i < k := fun h => hni ((hk i).2 h)
        rcases Nat.lt_or_ge k i with h | h
        · have := before k (C.rest i o (by omega) ho k h)
          exact absurd ((hk k).1 this) (by omega)
        · omega
      subst hik
      have hdrop : ops.toList.drop i = o :: ops.toList.drop (i + 1) := by
        have hil : i < ops.toList.length := by simpa using his
        rw [List.drop_eq_getElem_cons hil]
        congr 1
        have := (Array.getElem?_eq_some_iff.1 ho).2
        simpa using this
      rw [hdrop] at hr
      refine aOps_step H HC hn ho hr R fun σ' s' a' w' hr' R' => ?_
      refine ih _ a' w' (by simpa using hs) (by omega) hc' (.inr ⟨i + 1, by omega, fun j => ?_, σ', s', R', hr'⟩)
      rw [hset]
      simp only []
      rw [hk j]
      omega
    rcases hI with hA | hB
    · by_cases him : i < m
      · obtain ⟨h1, σ, s, R, A⟩ := hA
        refine calm_step H HC hn C Tr A hc him ho hni hd R fun σ' s' a' w' R' A' => ?_
        refine ih _ a' w' (by simpa using hs) (by omega) hc' (.inl ⟨fun j hj => ?_, σ', s', R', ?_⟩)
        · rw [hset] at hj
          rcases hj with hj | rfl
          · exact h1 j hj
          · exact him
        · rw [hset]
          exact A'
      · have hall : ∀ k, k < i → Ls listed k := fun k hk => before k (C.rest i o (by omega) ho k hk)
        exact caseB (full listed a w hA fun k hk => hall k (by omega))
    · exact caseB hB
theorem regM_ok (H : TIs fr.P G) (HC : ∀ f F, get G.calls f = some F → CallOk fr.P f F) (hn : G.n = fr.n) : CalmOk fr G regM := by
  intro ρ r id ops σ s a w K Q ms m hcalm h R hQ
  have C := calm_of hcalm
  have hlen : ops.toList.length = ops.size := Array.length_toList
  obtain ⟨st, rd, wr, e0, e1, _, e3, e4⟩ := trace_of ops.toList 0 s [] (fun k o hk => by simpa using hk) (Nat.zero_le m) (by have := C.le; omega) h
  rw [Nat.sub_zero] at e4
  have Tr : Trace G ops ms m st rd wr := ⟨fun i o hi ho => e1 i o (by omega) (by simpa using ho), fun j i hji hi => by
    have := e3 j i hji (by omega)
    rwa [Nat.zero_add, Nat.zero_add] at this⟩
  refine wp_region_draw fun t => ?_
  have hnone : ∀ i, ¬ Ls (Array.replicate ops.size false) i := fun i h => by
    unfold Ls at h
    rw [Array.getD_eq_getD_getElem?, Array.getElem?_replicate] at h
    split at h <;> simp at h
  have hany : ∀ md t', wpOps fr.P ops Q (Region.linearise md ops t') a { w with drawn := w.drawn + 1 } := fun md t' => by
    refine wpAny_sound ops.size t' _ a _ (calm_any H HC hn C Tr hQ e4 md ops.size _ a _ (by simp) ?_ (fun i o hi => absurd hi (hnone i)) (.inl ⟨fun i hi => absurd hi (hnone i), σ, s, R.grow (Below.self_drew _ w), ⟨fun id _ => by rw [e0], fun j _ hj => absurd hj (hnone j), fun j t hj => absurd hj (hnone j), fun t _ => by rw [e0]⟩⟩))
    have : (unl ops (Array.replicate ops.size false)).length ≤ (List.range ops.size).length := List.length_filter_le _ _
    simpa using this
  unfold Region.schedule
  split
  · exact hany _ _
  · exact hany _ _
end
theorem calm_ok {P : Program} {G : Ctx} (H : TIs P G) (HC : ∀ f F', get G.calls f = some F' → CallOk P f F') : ∀ fr : Fr, fr.P = P → fr.n = G.n → CalmOk fr G regM := by
  rintro fr rfl hn
  exact regM_ok H HC hn.symm
end Go.Proofs.Ytfmfgomijjibgaa.Abs
end

section
namespace Go.Proofs.Ytfmfgomijjibgaa.Abs
open Go.RowKit Go.ChangeShapes Go.WideShapes

/-! ## What came in: how it reads -/
/-- A value's bytes, at least. -/
noncomputable def tb : Ty → Nat
  | .int k => k.bits / 8
  | .bool => 1
  | .str => 16
  | .unit => 0
  | .sl _ => 24
  | .arr n t => n * tb t
  | .pair a b => tb a + tb b
/-- What is known of a value that came in. -/
def good : (t : Ty) → t.den → Prop
  | .int k, x => (Lit.int k x).wf = true
  | .bool, _ => True
  | .str, x => x.length ≤ 140737488351232
  | .unit, _ => True
  | .sl t, xs => xs.length * tb t ≤ 140737488351232 ∧ xs.length ≤ 9223372036854775807 ∧ ∀ x ∈ xs, good t x
  | .arr n t, xs => xs.length = n ∧ ∀ x ∈ xs, good t x
  | .pair a b, x => good a x.1 ∧ good b x.2

/-- Does type ty read as a t? -/
noncomputable def opensB (P : Program) : Nat → Sum TypeId (List Field × Nat) → Ty → Bool
  | 0, _, _ => false
  | m + 1, .inl ty, t => match t with
    | .int k => (match P.underlying ty with | some (.int k') => decide (k = k') | _ => false)
    | .bool => (match P.underlying ty with | some .bool => true | _ => false)
    | .str => (match P.underlying ty with | some .string => true | _ => false)
    | .sl t => (match P.underlying ty with | some (.slice e) => Nat.beq (P.cellsOf e) t.size && Nat.blt 0 t.size && Nat.ble (tb t) (P.bytesOf e) && opensB P m (.inl e) t | _ => false)
    | .pair a b => (match P.underlying ty with | some (.struct fs) => Nat.beq (P.cellsOf ty) (a.size + b.size) && opensB P m (.inr (fs.toList, 0)) (.pair a b) | _ => false)
    | _ => false
  | m + 1, .inr (f :: g :: r, o), .pair a b => Nat.beq f.offset o && Nat.beq (P.cellsOf f.type) a.size && opensB P m (.inl f.type) a && opensB P m (.inr (g :: r, o + a.size)) b
  | m + 1, .inr ([f], o), t => Nat.beq f.offset o && Nat.beq (P.cellsOf f.type) t.size && opensB P m (.inl f.type) t
  | _ + 1, .inr _, _ => false

theorem weightsAll_mem {H : Type} {P : Program} {e : TypeId} : ∀ {ds : List (DataW H)} {d : DataW H}, d ∈ ds → ∀ n ∈ d.weights P e, n ∈ DataW.weightsAll P e ds
  | d0 :: ds, d, hd, n, hn => by
    rw [DataW.weightsAll, List.mem_append]
    rcases List.mem_cons.1 hd with rfl | hd
    · exact .inl hn
    · exact .inr (weightsAll_mem hd n hn)

section
variable {H : Type} {enc : TypeId × Value → H} {P : Program} {w : World} {base : Nat} {spare : Nat → Bool} {held : Bool}
/-- Blocks that there are. -/
def Old (w : World) (b : Nat) : Prop := b < w.heap.size

theorem open_slice' {ty e : TypeId} {t : Ty} {fuel : Nat} {cs : List Value} {y : DataW H × List MemPlace} (hu : P.underlying ty = some (.slice e)) (hs : P.cellsOf e = t.size) (h0 : 0 < t.size) (hB : tb t ≤ P.bytesOf e)
    (ih : ∀ {fuel cs} {y : DataW H × List MemPlace}, DataW.trod enc P w base spare held fuel e cs = some y → (∀ n ∈ y.1.weights P e, n ≤ reachBytes) → ∃ x, KF w (Old w) t x cs ∧ good t x)
    (hy : DataW.trod enc P w base spare held fuel ty cs = some y) (hz : ∀ n ∈ y.1.weights P ty, n ≤ reachBytes) : ∃ x, KF w (Old w) (.sl t) x cs ∧ good (.sl t) x := by
  rcases Deep.open_slice hu hy with ⟨rfl, rfl⟩ | ⟨a, len, cap, m, n, D, Pl, rfl, hb, hl, hm, hmm, rfl, hx⟩
  · exact ⟨[], ⟨none, 0, rfl, Nat.le_refl _, .inl rfl⟩, by simp [good]⟩
  have hlm : len ≤ m := by rw [hmm]; split <;> omega
  simp only [DataW.weights, hu, List.mem_cons, List.mem_append] at hz
  have hel : ∀ i, i < len → ∃ x : t.den, (∃ c, c.length = t.size ∧ KF w (Old w) t x c ∧ ∀ j u, c[j]? = some u → w.cell? (a.add (i * t.size + j)) = some u) ∧ good t x := by
    intro i hi
    obtain ⟨cs', h1, h2⟩ := hx i (by omega)
    obtain ⟨x, hk, hg⟩ := ih h2 (fun q hq => hz q (.inr (.inl (weightsAll_mem (d := D i) (List.mem_map.2 ⟨i, List.mem_range.2 hi, rfl⟩) q hq))))
    obtain ⟨_, hlen, hc⟩ := World.cells?_some h1
    refine ⟨x, ⟨cs', by rw [hlen, hs], hk, fun j u hu => ?_⟩, hg⟩
    have hj : j < cs'.length := (List.getElem?_eq_some_iff.1 hu).1
    rw [hlen] at hj
    have := hc j hj
    rw [hu, hs] at this
    rw [← Deep.add_add]
    exact this
  have : Inhabited t.den := ⟨t.zero⟩
  obtain ⟨X, hX⟩ := Deep.choose_lt (α := t.den) (p := fun i x => (∃ c, c.length = t.size ∧ KF w (Old w) t x c ∧ ∀ j u, c[j]? = some u → w.cell? (a.add (i * t.size + j)) = some u) ∧ good t x) hel
  have hget : ∀ j p, ((List.range len).map X)[j]? = some p → j < len ∧ X j = p := by
    intro j p hp
    have hj : j < len := by
      have := (List.getElem?_eq_some_iff.1 hp).1
      simpa using this
    refine ⟨hj, ?_⟩
    simpa [List.getElem?_range, hj] using hp
  refine ⟨(List.range len).map X, ⟨some a, cap, by simp, by simpa using hl, ?_⟩, ?_, ?_, ?_⟩
  · by_cases h : len = 0
    · subst h
      exact .inl rfl
    · right
      obtain ⟨⟨c0, hc0, _, hcell0⟩, _⟩ := hX 0 (Nat.pos_of_ne_zero h)
      obtain ⟨u0, hu0⟩ : ∃ u0, c0[0]? = some u0 := ⟨c0[0]'(by omega), by simp⟩
      have hc := hcell0 0 u0 hu0
      have hspot : a.spot = none := by simpa [Addr.add] using World.cell?_spot hc
      have hblk : a.block < w.heap.size := by
        unfold World.cell? at hc
        split at hc
        · rename_i hh
          have := (Array.getElem?_eq_some_iff.1 hh).1
          simpa [Addr.add] using this
        · cases hc
      refine ⟨a, rfl, hspot, hblk, fun j p hp => ?_⟩
      obtain ⟨hj, rfl⟩ := hget j p hp
      obtain ⟨⟨c, h1, h2, h3⟩, _⟩ := hX j hj
      refine ⟨c, h1, h2, fun q u hq => ?_⟩
      rw [← h3 q u hq]
      obtain ⟨ab, ao, asp⟩ := a
      simp only at hspot
      subst hspot
      rw [Addr.add_lit]
  · have := hz _ (.inl rfl)
    simp only [List.length_map, List.length_range] at this ⊢
    exact Nat.le_trans (Nat.mul_le_mul (Nat.le_add_right _ _) hB) this
  · have : maxLen = 9223372036854775807 := rfl
    simp only [List.length_map, List.length_range]
    omega
  · intro x hx'
    obtain ⟨i, hi, rfl⟩ := List.mem_map.1 hx'
    exact (hX i (List.mem_range.1 hi)).2

/-- The fields from offset o on. -/
def FieldsAt (enc : TypeId × Value → H) (P : Program) (w : World) (base : Nat) (spare : Nat → Bool) (held : Bool) (fs : List Field) (cs : List Value) (n : Nat) (xs : List (DataW H × List MemPlace)) : Prop :=
  xs.length = fs.length ∧ (∀ (i : Nat) (f : Field), fs[i]? = some f → DataW.trod enc P w base spare held n f.type ((cs.drop f.offset).take (P.cellsOf f.type)) = xs[i]?) ∧
    ∀ q ∈ DataW.weightsEach P (fs.map (·.type)) (xs.map (·.1)), q ≤ reachBytes

theorem opens_of : ∀ (m : Nat) (z : Sum TypeId (List Field × Nat)) (t : Ty), opensB P m z t = true →
    match z with
    | .inl ty => ∀ (fuel : Nat) (cs : List Value) (y : DataW H × List MemPlace), DataW.trod enc P w base spare held fuel ty cs = some y → (∀ n ∈ y.1.weights P ty, n ≤ reachBytes) → ∃ x, KF w (Old w) t x cs ∧ good t x
    | .inr (fs, o) => ∀ (cs : List Value) (n : Nat) (xs : List (DataW H × List MemPlace)), cs.length = o + t.size → FieldsAt enc P w base spare held fs cs n xs → ∃ x, KF w (Old w) t x (cs.drop o) ∧ good t x
  | 0, _, _, h => by cases h
  | m + 1, .inl ty, t, h => by
    intro fuel cs y hy hz
    cases t with
    | int k =>
      simp only [opensB] at h
      split at h
      · rename_i k' hu
        have hk := of_decide_eq_true h
        subst hk
        obtain ⟨n, rfl, rfl, hw⟩ := DataW.trod_int hu hy
        exact ⟨n, rfl, hw⟩
      · cases h
    | bool =>
      simp only [opensB] at h
      split at h
      · rename_i hu
        obtain ⟨n, rfl, rfl⟩ := DataW.trod_bool hu hy
        exact ⟨n, rfl, trivial⟩
      · cases h
    | str =>
      simp only [opensB] at h
      split at h
      · rename_i hu
        obtain ⟨s, rfl, rfl, hw⟩ := DataW.trod_string hu hy
        have := hz s.data.toList.length (by simp [DataW.weights])
        exact ⟨s.data.toList, ⟨s, rfl, rfl⟩, this⟩
      · cases h
    | unit => simp [opensB] at h
    | arr n t => simp [opensB] at h
    | sl t =>
      simp only [opensB] at h
      split at h
      · rename_i e hu
        simp only [Bool.and_eq_true] at h
        obtain ⟨⟨⟨h1, h2⟩, h3⟩, h4⟩ := h
        exact open_slice' hu (Nat.eq_of_beq_eq_true h1) (Nat.lt_of_succ_le (Nat.le_of_ble_eq_true h2)) (Nat.le_of_ble_eq_true h3) (fun {_ _ _} h hz => opens_of m (.inl e) t h4 _ _ _ h hz) hy hz
      · cases h
    | pair a b =>
      simp only [opensB] at h
      split at h
      · rename_i fs hu
        simp only [Bool.and_eq_true] at h
        obtain ⟨xs, n, _, rfl, hl, hxs, hall⟩ := DataW.trod_struct hu hy
        simp only [DataW.weights, hu] at hz
        have := opens_of m (.inr (fs.toList, 0)) (.pair a b) h.2 cs n xs (by rw [hl, Nat.eq_of_beq_eq_true h.1]; simp [Ty.size]) ⟨by simpa using hxs, fun i f hf => hall i f (by simpa using hf), hz⟩
        simpa using this
      · cases h
  | m + 1, .inr (f :: g :: r, o), .pair a b, h => by
    intro cs n xs hcs ⟨hl, hall, hz⟩
    simp only [opensB, Bool.and_eq_true] at h
    obtain ⟨⟨⟨h1, h2⟩, h3⟩, h4⟩ := h
    have h1 := Nat.eq_of_beq_eq_true h1
    have h2 := Nat.eq_of_beq_eq_true h2
    match xs, hl with
    | x0 :: xs, hl =>
      have q0 := hall 0 f rfl
      simp only [List.map_cons, DataW.weightsEach, List.mem_append] at hz
      obtain ⟨x, hk, hg⟩ := opens_of m (.inl f.type) a h3 _ _ x0 q0 (fun q hq => hz q (.inl hq))
      obtain ⟨z, hk1, hg1⟩ := opens_of m (.inr (g :: r, o + a.size)) b h4 cs n xs (by simp only [Ty.size] at hcs; omega) ⟨by simpa using hl, fun i f hf => hall (i + 1) f hf, fun q hq => hz q (.inr (by simpa using hq))⟩
      rw [h1, h2] at hk
      refine ⟨(x, z), ⟨_, _, ?_, hk, hk1⟩, hg, hg1⟩
      rw [← List.drop_drop, List.take_append_drop]
  | m + 1, .inr ([f], o), t, h => by
    intro cs n xs hcs ⟨hl, hall, hz⟩
    have h : (Nat.beq f.offset o && Nat.beq (P.cellsOf f.type) t.size && opensB P m (.inl f.type) t) = true := by
      cases t <;> exact h
    simp only [Bool.and_eq_true] at h
    obtain ⟨⟨h1, h2⟩, h3⟩ := h
    have h1 := Nat.eq_of_beq_eq_true h1
    have h2 := Nat.eq_of_beq_eq_true h2
    match xs, hl with
    | [x0], _ =>
      have q0 := hall 0 f rfl
      simp only [List.map_cons, DataW.weightsEach, List.mem_append] at hz
      obtain ⟨x, hk, hg⟩ := opens_of m (.inl f.type) t h3 _ _ x0 q0 (fun q hq => hz q (.inl hq))
      rw [h1, h2, List.take_of_length_le (by rw [List.length_drop]; omega)] at hk
      exact ⟨x, hk, hg⟩
  | m + 1, .inr ([], _), t, h => by cases t <;> cases h
  | m + 1, .inr (_ :: _ :: _, _), .int k, h => by simp [opensB] at h
  | m + 1, .inr (_ :: _ :: _, _), .bool, h => by simp [opensB] at h
  | m + 1, .inr (_ :: _ :: _, _), .str, h => by simp [opensB] at h
  | m + 1, .inr (_ :: _ :: _, _), .unit, h => by simp [opensB] at h
  | m + 1, .inr (_ :: _ :: _, _), .sl _, h => by simp [opensB] at h
  | m + 1, .inr (_ :: _ :: _, _), .arr _ _, h => by simp [opensB] at h
end
end Go.Proofs.Ytfmfgomijjibgaa.Abs
end

section
namespace Go.Proofs.Ytfmfgomijjibgaa.Abs
open Go.RowKit Go.ChangeShapes Go.WideShapes

/-! ## An argument -/
noncomputable def argB (P : Program) (ty : TypeId) : VSh → Bool
  | .c (.int k) => opensB P 60 (.inl ty) (.int k)
  | .c .bool => opensB P 60 (.inl ty) .bool
  | .c .str => opensB P 60 (.inl ty) .str
  | .c (.sl true t) => opensB P 60 (.inl ty) (.sl t)
  | .tv true (.pair a b) => opensB P 60 (.inl ty) (.pair a b)
  | .tv false (.pair a b) => !(Ty.pair a b).hasSl && opensB P 60 (.inl ty) (.pair a b)
  | .av n t => !t.hasSl && (match P.underlying ty with | some (.array m e) => Nat.beq m n && Nat.beq (P.cellsOf e) t.size && Nat.beq (P.cellsOf ty) (n * t.size) && opensB P 60 (.inl e) t | _ => false)
  | _ => false
def argGood {R : Type} : (x : VSh) → VSh.cons R x → Prop
  | .c (.int k), z => (Lit.int k z.1).wf = true
  | .c .bool, _ => True
  | .c .str, z => z.1.length ≤ 140737488351232
  | .c (.sl _ t), z => good (.sl t) z.1
  | .tv _ t, z => good t z.1
  | .av n t, z => z.1.length = n ∧ ∀ x ∈ z.1, good t x
  | _, _ => True
noncomputable def argsB (P : Program) : Nat → List (Nat × VSh) → List TypeId → Bool
  | _, [], [] => true
  | i, (j, x) :: r, t :: ts => Nat.beq j i && Nat.blt i 1000000 && argB P t x && argsB P (i + 1) r ts
  | _, _, _ => false
def argsGood {R : Type} : (xs : List (Nat × VSh)) → slotsX R xs → Prop
  | [], _ => True
  | (_, x) :: r, z => argGood x z ∧ argsGood r (unpackV x z).2

theorem weightsAll_at {H : Type} {P : Program} {e : TypeId} {d : DataW H} {ds : List (DataW H)} (h : ∀ n ∈ DataW.weightsAll P e ds, n ≤ reachBytes) (hd : d ∈ ds) : ∀ n ∈ d.weights P e, n ≤ reachBytes := fun n hn => h n (weightsAll_mem hd n hn)

section
variable {H : Type} {enc : TypeId × Value → H} {P : Program} {w : World} {spare : Nat → Bool} {held : Bool}

theorem open_array {ty e : TypeId} {n : Nat} {t : Ty} {fuel : Nat} {cs : List Value} {y : DataW H × List MemPlace} (hu : P.underlying ty = some (.array n e)) (hs : P.cellsOf e = t.size) (ha : P.cellsOf ty = n * t.size)
    (ih : ∀ (fuel : Nat) (cs : List Value) (y : DataW H × List MemPlace), DataW.trod enc P w 0 spare held fuel e cs = some y → (∀ n ∈ y.1.weights P e, n ≤ reachBytes) → ∃ x, KF w (Old w) t x cs ∧ good t x)
    (hy : DataW.trod enc P w 0 spare held fuel ty cs = some y) (hz : ∀ n ∈ y.1.weights P ty, n ≤ reachBytes) : ∃ xs : List t.den, KF w (Old w) (.arr n t) xs cs ∧ xs.length = n ∧ ∀ x ∈ xs, good t x := by
  obtain ⟨xs, m, _, rfl, hl, hxs, hall⟩ := DataW.trod_array hu hy
  simp only [DataW.weights, hu] at hz
  have hel : ∀ i, i < n → ∃ x : t.den, KF w (Old w) t x ((cs.drop (i * t.size)).take t.size) ∧ good t x := by
    intro i hi
    have h1 := hall i hi
    have hlt : i < xs.length := by omega
    rw [List.getElem?_eq_getElem hlt, hs] at h1
    exact ih _ _ _ h1 (weightsAll_at hz (List.mem_map.2 ⟨_, List.getElem_mem hlt, rfl⟩))
  have : Inhabited t.den := ⟨t.zero⟩
  obtain ⟨X, hX⟩ := Deep.choose_lt (α := t.den) (p := fun i x => KF w (Old w) t x ((cs.drop (i * t.size)).take t.size) ∧ good t x) hel
  refine ⟨(List.range n).map X, ⟨by simp, by rw [hl, ha], fun i x hi => ?_⟩, by simp, fun x hx => ?_⟩
  · have hlt : i < n := by
      have := (List.getElem?_eq_some_iff.1 hi).1
      simpa using this
    have e : X i = x := by simpa [List.getElem?_range, hlt] using hi
    rw [← e]
    exact (hX i hlt).1
  · obtain ⟨i, hi, rfl⟩ := List.mem_map.1 hx
    exact (hX i (List.mem_range.1 hi)).2

variable {fr : Fr} {σ : Nat → Value}
theorem arg_in (hF : ∀ b, Old w b → Foot fr σ [] w true b) {base : Nat} {ty : TypeId} {x : VSh} {R : Type} (r0 : R) {v : Value} {d : DataW H} {ps : List MemPlace} (hb : argB P ty x = true) (hv : Value.okWide P w .any base ty v) (h : DataW.Trod enc P w 0 spare held ty v d ps) (hz : ∀ n ∈ d.weights P ty, n ≤ reachBytes) :
    ∃ z : VSh.cons R x, argGood x z ∧ (unpackV x z).2 = r0 ∧ VR fr σ [] w (unpackV x z).1 v := by
  obtain ⟨fuel, hy⟩ := h
  have key : ∀ {t : Ty}, opensB P 60 (.inl ty) t = true → ∃ x, KF w (Foot fr σ [] w true) t x v.cells.toList ∧ good t x := fun {t} ho => by
    obtain ⟨x, hk, hg⟩ := opens_of (enc := enc) (w := w) (base := 0) (spare := spare) (held := held) 60 (.inl ty) t ho _ _ _ hy hz
    exact ⟨x, KF.imp (fun b hb => ⟨hF b hb, rfl⟩) _ _ _ hk, hg⟩
  have strct : ∀ {a b : Ty}, opensB P 60 (.inl ty) (.pair a b) = true → ∃ cs, v = .agg cs := fun {a b} ho => by
    simp only [opensB] at ho
    split at ho
    · rename_i fs hu
      obtain ⟨cs, e, _⟩ := okWide_struct hu hv
      exact ⟨cs, e⟩
    · cases ho
  cases x with
  | c s =>
    cases s with
    | int k =>
      obtain ⟨x, hk, hg⟩ := key (t := .int k) hb
      simp only [argB, opensB] at hb
      split at hb
      · rename_i k' hu
        obtain ⟨n, rfl⟩ := okWide_int hu hv
        have : k = k' := of_decide_eq_true hb
        subst this
        have e : [Value.int k n] = [.int k x] := hk
        simp only [List.cons.injEq, Value.int.injEq, true_and, and_true] at e
        subst e
        exact ⟨(n, r0), hg, rfl, rfl⟩
      · cases hb
    | bool =>
      obtain ⟨x, hk, hg⟩ := key (t := .bool) hb
      simp only [argB, opensB] at hb
      split at hb
      · rename_i hu
        obtain ⟨n, rfl⟩ := okWide_bool hu hv
        have e : [Value.bool n] = [.bool x] := hk
        simp only [List.cons.injEq, Value.bool.injEq, and_true] at e
        subst e
        exact ⟨(n, r0), trivial, rfl, rfl⟩
      · cases hb
    | str =>
      obtain ⟨x, hk, hg⟩ := key (t := .str) hb
      simp only [argB, opensB] at hb
      split at hb
      · rename_i hu
        obtain ⟨s, rfl⟩ := okWide_string hu hv
        obtain ⟨s', e, he⟩ := hk
        have e : [Value.string s] = [.string s'] := e
        simp only [List.cons.injEq, Value.string.injEq, and_true] at e
        subst e
        subst he
        exact ⟨(_, r0), hg, rfl, s, rfl, rfl⟩
      · cases hb
    | sl al t =>
      cases al with
      | false => cases hb
      | true =>
        obtain ⟨x, hk, hg⟩ := key (t := .sl t) hb
        have hb : opensB P 60 (.inl ty) (.sl t) = true := hb
        unfold opensB at hb
        simp only [] at hb
        split at hb
        · rename_i e hu
          obtain ⟨a, l, c, rfl⟩ := okWide_slice hu hv
          exact ⟨(x, r0), hg, rfl, hk⟩
        · cases hb
    | nil => cases hb
    | own id => cases hb
    | view id => cases hb
  | agg xs => cases hb
  | av n t =>
    simp only [argB, Bool.and_eq_true, Bool.not_eq_true'] at hb
    obtain ⟨hs, hb⟩ := hb
    split at hb
    · rename_i m e hu
      simp only [Bool.and_eq_true] at hb
      obtain ⟨⟨⟨h1, h2⟩, h3⟩, h4⟩ := hb
      have h1 := Nat.eq_of_beq_eq_true h1
      subst h1
      obtain ⟨xs, hk, hl, hg⟩ := open_array hu (Nat.eq_of_beq_eq_true h2) (Nat.eq_of_beq_eq_true h3) (opens_of 60 (.inl e) t h4) hy hz
      have hv' := hv
      simp only [Value.okWide, hu] at hv'
      obtain ⟨cs, rfl, _⟩ := hv'
      exact ⟨(xs, r0), ⟨hl, hg⟩, rfl, cs, rfl, KF.noSl (.arr m t) xs _ (by simpa [Ty.hasSl] using hs) hk⟩
    · cases hb
  | pt id off => cases hb
  | tv al t =>
    cases t with
    | pair a b =>
      cases al with
      | true =>
        have hb : opensB P 60 (.inl ty) (.pair a b) = true := hb
        obtain ⟨x, hk, hg⟩ := key hb
        obtain ⟨cs, rfl⟩ := strct hb
        exact ⟨(x, r0), hg, rfl, cs, rfl, CRs.flat _ _ _ hk⟩
      | false =>
        simp only [argB, Bool.and_eq_true, Bool.not_eq_true'] at hb
        obtain ⟨x, hk, hg⟩ := key hb.2
        obtain ⟨cs, rfl⟩ := strct hb.2
        exact ⟨(x, r0), hg, rfl, cs, rfl, CRs.flat _ _ _ (KF.noSl _ _ _ hb.1 hk)⟩
    | _ => cases al <;> cases hb

theorem args_in (hF : ∀ b, Old w b → Foot fr σ [] w true b) {base : Nat} {R : Type} (r0 : R) : ∀ {slots : List (Nat × VSh)} {i : Nat} {tys : List TypeId} {vs : List Value} {ds : List (DataW H)} {ps : List MemPlace}, argsB P i slots tys = true →
    DataW.TrodAll enc P w 0 spare held tys vs ds ps → (∀ n ∈ DataW.weightsEach P tys ds, n ≤ reachBytes) → (∀ (j : Nat) t v, tys[j]? = some t → vs[j]? = some v → Value.okWide P w .any base t v) →
    ∃ z : slotsX R slots, argsGood slots z ∧ (unpackSlots slots z).2 = r0 ∧ cntB slots = vs.length ∧ ∀ k v, get (unpackSlots slots z).1 k = some v → i ≤ k ∧ k < 1000000 ∧ ∃ u, vs[k - i]? = some u ∧ VR fr σ [] w v u
  | [], _, [], vs, ds, ps, _, h, _, _ => by
    obtain ⟨rfl, rfl, rfl⟩ := trodAll_nil h
    exact ⟨r0, trivial, rfl, rfl, fun k v hk => by cases hk⟩
  | (j, x) :: r, i, t :: ts, vs, ds, ps, hb, h, hz, hv => by
    simp only [argsB, Bool.and_eq_true] at hb
    obtain ⟨⟨⟨h1, h2⟩, h3⟩, h4⟩ := hb
    have h1 := Nat.eq_of_beq_eq_true h1
    subst h1
    have h2' := Nat.lt_of_succ_le (Nat.le_of_ble_eq_true h2)
    obtain ⟨v, vs, d, ds, p, q, rfl, rfl, rfl, hd, hr⟩ := trodAll_cons h
    simp only [DataW.weightsEach, List.mem_append] at hz
    obtain ⟨z1, g1, e1, c1, V1⟩ := args_in hF r0 (slots := r) (i := j + 1) h4 hr (fun n hn => hz n (.inr hn)) (fun k t v ht hv' => hv (k + 1) t v ht hv')
    obtain ⟨z, g, e, V⟩ := arg_in hF (R := slotsX R r) z1 h3 (hv 0 t v rfl rfl) hd (fun n hn => hz n (.inl hn))
    refine ⟨z, ⟨g, by rw [e]; exact g1⟩, ?_, ?_, fun k u hk => ?_⟩
    · show (unpackSlots r (unpackV x z).2).2 = r0
      rw [e]; exact e1
    · show (bif Nat.blt j 1000000 then cntB r + 1 else cntB r) = vs.length + 1
      rw [h2, c1]; rfl
    · have hk : get ((j, (unpackV x z).1) :: (unpackSlots r (unpackV x z).2).1) k = some u := hk
      rw [get_cons, e] at hk
      split at hk
      · rename_i ejk
        cases hk
        subst ejk
        exact ⟨Nat.le_refl _, h2', v, by simp, V⟩
      · obtain ⟨a1, a2, u', a3, a4⟩ := V1 k u hk
        refine ⟨by omega, a2, u', ?_, a4⟩
        rw [show k - j = (k - (j + 1)) + 1 from by omega]
        simpa using a3
  | [], _, _ :: _, _, _, _, hb, _, _, _ => by cases hb
  | _ :: _, _, [], _, _, _, hb, _, _, _ => by cases hb
end

theorem law_calls {H : Type} {enc : TypeId × Value → H} {P : Program} {g : FuncId} {slots : List (Nat × VSh)} {run : Nat → slotsX Unit slots → Option (Bool × Unit)} {tys : List TypeId}
    (hok : ∀ N, CallOk P g ⟨⟨slots, []⟩, ⟨[(0, .c .bool)], []⟩, [(false, .bool)], run N⟩) (hargs : argsB P 0 slots tys = true) (hlaw : ∀ z, argsGood slots z → ∃ N, run N z = some (true, ()))
    {W : World} {base : Nat} {args : Array Value} {ds : List (DataW H)} {ps : List MemPlace} {spare : Nat → Bool} {held : Bool} (hn : args.size ≤ 1000000)
    (h : DataW.TrodAll enc P W 0 spare held tys args.toList ds ps) (hz : ∀ n ∈ DataW.weightsEach P tys ds, n ≤ reachBytes) (hv : ∀ (j : Nat) t v, tys[j]? = some t → args[j]? = some v → Value.okWide P W .any base t v) :
    Calls P g args W fun e W' => e = .returned (.bool true) ∧ Below W.heap.size W W' := by
  let fr : Fr := ⟨P, W, fun b => b < W.heap.size, fun _ => False, fun b => W.heap.size ≤ b, args.size, fun _ => Go.undef⟩
  let σ : Nat → Value := fun _ => Go.undef
  have hF : ∀ b, Old W b → Foot fr σ [] W true b := fun b hb => ⟨hb, fun ⟨_, _, h, _⟩ => (by cases h), .inr ⟨rfl, hb⟩⟩
  obtain ⟨z, hg, hr, hc, hV⟩ := args_in (fr := fr) (σ := σ) hF (base := base) () hargs h hz (fun j t v ht hv' => hv j t v ht (by simpa using hv'))
  obtain ⟨N, hN⟩ := hlaw z hg
  obtain ⟨_, _, hf⟩ := hok N
  have R : RelS fr σ (unpack ⟨slots, []⟩ z) ⟨args, []⟩ W := by
    refine ⟨⟨rfl, rfl, rfl, Nat.le_refl _, fun _ _ _ => rfl, fun k hk => hk, fun k hk => .inl hk⟩, fun b hb => hb, fun _ _ _ _ h => (by cases h), fun _ _ h => (by cases h), fun k v hk => ?_, rfl, hn, rfl⟩
    obtain ⟨_, h2, u, hu, hVu⟩ := hV k v hk
    have : fr.val ⟨args, []⟩ k = u := by
      unfold Fr.val
      rw [if_pos h2]
      have hu' : args[k]? = some u := by simpa using hu
      simp [Array.getD_eq_getD_getElem?, hu']
    rw [this]
    exact hVu
  have e1 : args.toList.toArray = args := by simp
  have := hf z (true, ()) hN fr σ args.toList rfl (by simp [fr]) hc.symm (by rw [e1]; exact R)
  rw [e1] at this
  refine this.mono ?_
  rintro (v | _) w' hres
  case returned =>
    obtain ⟨σ', us', rfl, hl, R'⟩ := hres
    have hl : us'.length = 1 := hl
    match us', hl with
    | [u], _ =>
      have := R'.env 0 (.c (.bool true)) rfl
      have hu : u = .bool true := this
      refine ⟨by rw [hu]; rfl, ?_⟩
      have K := R'.kept
      exact ⟨K.os, K.tape, K.output, K.size, fun k hk => K.block k hk (fun h => h)⟩
  all_goals exact absurd hres (fun h => h)

theorem back_all {H : Type} {enc : TypeId × Value → H} {P : Program} (hl : laidOutB P = true) {W W' : World} (hb : Below W.heap.size W W') : ∀ {tys : List TypeId} {vs : List Value} {ds : List (DataW H)} {ps : List MemPlace},
    (tys.all fun t => P.readableRec t && decide (t < P.types.size)) = true → DataW.TrodAll enc P W 0 (fun _ => true) true tys vs ds ps → ∃ q, DataW.TrodAll enc P W' 0 (fun b => decide (b < W.heap.size)) true tys vs ds q
  | [], vs, ds, ps, _, h => by
    obtain ⟨rfl, rfl, rfl⟩ := trodAll_nil h
    exact ⟨[], trodAll_mk0⟩
  | t :: ts, vs, ds, ps, ht, h => by
    simp only [List.all_cons, Bool.and_eq_true] at ht
    obtain ⟨v, vs, d, ds, p, q, rfl, rfl, rfl, hd, hr⟩ := trodAll_cons h
    obtain ⟨q', hq⟩ := back_all hl hb ht.2 hr
    have lt : ∀ x ∈ p, x.block < W.heap.size := by obtain ⟨m, hm⟩ := hd; exact DataW.trod_lt m _ _ _ hm
    exact ⟨_, trodAll_cons_mk (Below.trod hl ht.1.1 (of_decide_eq_true ht.1.2) hd hb lt) hq⟩

theorem trodAll_len {H : Type} {enc : TypeId × Value → H} {P : Program} {W : World} {base : Nat} {spare : Nat → Bool} {held : Bool} : ∀ {tys : List TypeId} {vs : List Value} {ds : List (DataW H)} {ps : List MemPlace}, DataW.TrodAll enc P W base spare held tys vs ds ps → ds.length = tys.length
  | [], vs, ds, ps, h => by obtain ⟨rfl, rfl, rfl⟩ := trodAll_nil h; rfl
  | t :: ts, vs, ds, ps, h => by
    obtain ⟨v, vs, d, ds, p, q, rfl, rfl, rfl, hd, hr⟩ := trodAll_cons h
    rw [List.length_cons, List.length_cons, trodAll_len hr]

/-- The law, lifted to what its row asks. -/
theorem law_lifted {C : Checked} {g : FuncId} {fn : Func} {s : ChangeSpec} {slots : List (Nat × VSh)} {run : Nat → slotsX Unit slots → Option (Bool × Unit)} {rt : TypeId} {conds : List PathCond}
    (hok : ∀ N, CallOk C.prog g ⟨⟨slots, []⟩, ⟨[(0, .c .bool)], []⟩, [(false, .bool)], run N⟩) (hlaw : ∀ z, argsGood slots z → ∃ N, run N z = some (true, ()))
    (own : ownKnob C.prog.godebug = none) (laid : laidOutB C.prog = true) (noInit : C.prog.inits.idxOf? g = none) (hfn : C.prog.funcs[g]? = some fn) (hargs : argsB C.prog 0 slots fn.params.toList = true)
    (hread : (fn.params.toList.all fun t => C.prog.readableRec t && decide (t < C.prog.types.size)) = true) (hn : fn.params.size ≤ 1000000) (hrt : fn.resultTypes = #[rt]) (hbool : C.prog.underlying rt = some .bool)
    (hsv : s.vars = []) (hsf : ∀ (H : Type) (ds : List (DataW H)), ds.length = fn.params.toList.length → s.fn H ds = { results := [.lit (.bool true)], args := ds })
    (os : Os) (started : os.Started) (H : Type) (enc : TypeId × Value → H)
    (witness : ∃ (w : World) (tape : Tape) (i : Input), w.os = os ∧ (w.forCall tape i).Shaped C.prog ∧ i.vars = [] ∧ Input.okWide C.prog (w.forCall tape i) .any w.heap.size g i ∧
      s.pre6 enc C.prog fn conds false (w.forCall tape i).memory i.args ∧ Assume.holds {} C.prog (lone (Frame.enter C.prog g i.args .normal) [] (w.forCall tape i))) :
    ReturnsInHanded {} C os g .any (s.pre6 enc C.prog fn conds false) (s.post enc C.prog fn false true false false) := by
  refine returnsInHanded_of_change_sized own started noInit hfn witness ?_
  intro W base args ds gs before hval hW _ hsz _
  have hW' := hW
  obtain ⟨p, q, hA, hVv, rfl, hfz, hnd⟩ := hW
  rw [hsv] at hVv
  obtain ⟨rfl, rfl⟩ := trodVars_none hVv
  have hvt : s.plain.varTypes C.prog = [] := by
    unfold ChangeSpec.plain
    rw [hsv]; rfl
  rw [hvt, List.append_nil, List.append_nil] at hsz
  have hlen : args.toList.length = fn.params.toList.length := by
    have : ∀ {tys : List TypeId} {vs : List Value} {ds : List (DataW H)} {ps : List MemPlace}, DataW.TrodAll enc C.prog W 0 (fun _ => true) true tys vs ds ps → vs.length = tys.length := by
      intro tys
      induction tys with
      | nil => intro vs ds ps h; obtain ⟨rfl, rfl, rfl⟩ := trodAll_nil h; rfl
      | cons t ts ih =>
        intro vs ds ps h
        obtain ⟨v, vs, d, ds, p, q, rfl, rfl, rfl, hd, hr⟩ := trodAll_cons h
        rw [List.length_cons, List.length_cons, ih hr]
    exact this hA
  refine (law_calls hok hargs hlaw (base := base) (by simp at hlen; omega) hA (fun n hn => of_decide_eq_true (List.all_eq_true.1 hsz n hn)) (fun j t v ht hv => hval j t v (by simpa using ht) hv)).mono fun e W' ⟨he, bel⟩ => ?_
  subst he
  obtain ⟨q', hq⟩ := back_all laid bel hread hA
  have hs := hsf H ds (trodAll_len hA)
  refine ⟨_, rfl, ds, [], _, [], q', [], hW', ?_, ?_, ?_, bel.frame _, fun h => by cases h⟩
  · rw [List.append_nil, hs, hrt]
    exact trodAll_mk1 (shut_bool hbool _)
  · rw [List.append_nil, hs]
    exact hq
  · rw [List.append_nil, hs, hsv]
    rfl
end Go.Proofs.Ytfmfgomijjibgaa.Abs
end
