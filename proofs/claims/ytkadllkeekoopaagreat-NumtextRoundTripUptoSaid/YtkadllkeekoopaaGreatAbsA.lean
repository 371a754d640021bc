import Derived.Calls
import Derived.Laws.Entries
import Derived.Below
import Derived.Laws.AppendOwn
import Derived.WideLaws
import Derived.Laws.OwnMore
set_option linter.unusedVariables false
set_option linter.unusedSimpArgs false
section
namespace Go.Proofs.YtkadllkeekoopaaGreat.Abs

/-! ## Types of abstract values -/
inductive Ty where
  | int (k : IntKind) | bool | str | unit
  | sl (t : Ty) | arr (n : Nat) (t : Ty) | pair (a b : Ty)
  deriving DecidableEq

@[reducible] noncomputable def Ty.den : Ty → Type
  | .int _ => Int
  | .bool => Bool
  | .str => List UInt8
  | .unit => Unit
  | .sl t => List t.den
  | .arr _ t => List t.den
  | .pair a b => a.den × b.den

noncomputable def Ty.size : Ty → Nat
  | .unit => 0
  | .arr n t => n * t.size
  | .pair a b => a.size + b.size
  | _ => 1

noncomputable def Ty.zero : (t : Ty) → t.den
  | .int _ => (0 : Int)
  | .bool => false
  | .str => []
  | .unit => ()
  | .sl _ => []
  | .arr n t => List.replicate n t.zero
  | .pair a b => (a.zero, b.zero)

/-- Association lists by numbers, the newest first. -/
noncomputable def get {α : Type} : List (Nat × α) → Nat → Option α
  | [], _ => none
  | (i, x) :: r, j => bif Nat.beq i j then some x else get r j
noncomputable def del {α : Type} : List (Nat × α) → Nat → List (Nat × α)
  | [], _ => []
  | (i, x) :: r, j => bif Nat.beq i j then del r j else (i, x) :: del r j
noncomputable def put {α : Type} (l : List (Nat × α)) (j : Nat) (x : α) : List (Nat × α) := (j, x) :: del l j
noncomputable def has : List Nat → Nat → Bool
  | [], _ => false
  | i :: r, j => Nat.beq i j || has r j

/-! ## Abstract values -/
/-- What one cell holds. -/
inductive C where
  | int (k : IntKind) (n : Int)
  | bool (b : Bool)
  | str (s : List UInt8)
  | sl (al : Bool) (t : Ty) (xs : List t.den)    -- a slice that is only read; al: it may lead to what came in
  | nil                                          -- a nil slice
  | own (id : Nat)                               -- the whole of a row of the call's own
  | view (id lo len : Nat)                       -- a part of one
  | undef

inductive Obj where
  | row (e : TypeId) (al : Bool) (t : Ty) (xs : List t.den)      -- a slice's row, of the call's own
  | win (al : Bool) (t : Ty) (xs : List t.den)                   -- a window on a row that the caller owns
  | box (ty : TypeId) (cs : List C)                              -- a variable in memory
  | arr (ty : TypeId) (n : Nat) (t : Ty) (xs : List t.den)       -- an array variable in memory (of n elements without slices)
  | iter (s : List UInt8) (pos : Nat)                            -- a walk over a string

inductive V where
  | c (x : C)
  | agg (cs : List C)
  | tup (vs : List (Bool × List C))
  | av (n : Nat) (t : Ty) (xs : List t.den)   -- an array
  | ra (cs : List C)                 -- the address of cells that are only read
  | oa (id i off : Nat)              -- the address of cell off of element i of a row of the call's own
  | pt (id off : Nat)                -- the address of cell off of a variable
  | cap (id k : Nat)                 -- the first k elements of a row of the call's own, cut off behind
  | skip                             -- of an operation that was passed by
  | undef                            -- nothing is known

abbrev Env := List (Nat × V)
abbrev Tab := List (Nat × Obj)
structure St where
  env : Env
  T : Tab

noncomputable def castL {t u : Ty} (h : t = u) (xs : List t.den) : List u.den := cast (congrArg (fun t : Ty => List t.den) h) xs
noncomputable def asL (t : Ty) (u : Ty) (xs : List u.den) : Option (List t.den) := if h : u = t then some (castL h xs) else none

/-- What a slice holds, as a list of t's. -/
noncomputable def cont (T : Tab) (t : Ty) : C → Option (List t.den)
  | .sl _ u xs => asL t u xs
  | .nil => some []
  | .own id => match get T id with
    | some (.row _ _ u xs) => asL t u xs
    | some (.win _ u xs) => asL t u xs
    | _ => none
  | .view id lo len => match get T id with
    | some (.row _ _ u xs) => (asL t u xs).map fun xs => (xs.drop lo).take len
    | some (.win _ u xs) => (asL t u xs).map fun xs => (xs.drop lo).take len
    | _ => none
  | _ => none

noncomputable def repM {α : Type} (f : List C → Option (α × List C)) : Nat → List C → Option (List α × List C)
  | 0, cs => some ([], cs)
  | n + 1, cs => match f cs with
    | some (x, r) => match repM f n r with
      | some (xs, r') => some (x :: xs, r')
      | none => none
    | none => none

/-- Cells read as a value of type t; what is left of them. -/
noncomputable def unflat (T : Tab) : (t : Ty) → List C → Option (t.den × List C)
  | .int k, .int k' n :: r => if k = k' then some (n, r) else none
  | .bool, .bool b :: r => some (b, r)
  | .str, .str s :: r => some (s, r)
  | .unit, r => some ((), r)
  | .sl t, c :: r => match cont T t c with
    | some xs => some (xs, r)
    | none => none
  | .arr n t, r => repM (unflat T t) n r
  | .pair a b, r => match unflat T a r with
    | some (x, r1) => match unflat T b r1 with
      | some (y, r2) => some ((x, y), r2)
      | none => none
    | none => none
  | _, _ => none

/-- A value's cells. -/
noncomputable def flat (al : Bool) : (t : Ty) → t.den → List C
  | .int k, x => [.int k x]
  | .bool, x => [.bool x]
  | .str, x => [.str x]
  | .unit, _ => []
  | .sl t, xs => [.sl al t xs]
  | .arr n t, xs => (List.range n).flatMap fun i => flat al t (xs.getD i t.zero)
  | .pair a b, x => flat al a x.1 ++ flat al b x.2


/-! ## What is known of the program -/
structure TI where
  elem : Option TypeId := none            -- a slice's or an array's elements
  ty : Option Ty := none                  -- its values
  agg : Bool := false                     -- a struct or an array
  bytes : Nat := 0
  feq : Option (List Ty) := none          -- its cells' kinds, where its values may be compared
  aeq : Option IntKind := none            -- an array's elements, where these are whole numbers and it may be compared
  fields : List (Nat × Nat × Bool) := []  -- a struct's fields: offset, cells, is it a struct or an array

/-! ## The shape of a state: at a loop's head, where ways meet, where a block is left, of what a function is handed and hands back -/
inductive Sh where
  | int (k : IntKind) | bool | str
  | sl (al : Bool) (t : Ty)
  | nil
  | own (id : Nat)
  | view (id : Nat)
inductive VSh where
  | c (x : Sh)
  | agg (xs : List Sh)
  | av (n : Nat) (t : Ty)
  | pt (id off : Nat)
  | tv (al : Bool) (t : Ty)         -- a struct, as one value
inductive OSh where
  | row (e : TypeId) (al : Bool) (t : Ty)
  | box (ty : TypeId) (xs : List Sh)
  | arr (ty : TypeId) (n : Nat) (t : Ty)
  | tb (ty : TypeId) (al : Bool) (t : Ty)   -- a variable of a struct's type, as one value
  | iter
structure Desc where
  slots : List (Nat × VSh)
  objs : List (Nat × OSh)

@[reducible] noncomputable def Sh.cons (R : Type) : Sh → Type
  | .int _ => Int × R
  | .bool => Bool × R
  | .str => List UInt8 × R
  | .sl _ t => List t.den × R
  | .nil => R
  | .own _ => R
  | .view _ => Nat × Nat × R
@[reducible] noncomputable def Sh.conses (R : Type) : List Sh → Type
  | [] => R
  | x :: r => Sh.cons (Sh.conses R r) x
@[reducible] noncomputable def VSh.cons (R : Type) : VSh → Type
  | .c x => Sh.cons R x
  | .agg xs => Sh.conses R xs
  | .av _ t => List t.den × R
  | .pt _ _ => R
  | .tv _ t => t.den × R
@[reducible] noncomputable def OSh.cons (R : Type) : OSh → Type
  | .row _ _ t => List t.den × R
  | .box _ xs => Sh.conses R xs
  | .arr _ _ t => List t.den × R
  | .tb _ _ t => t.den × R
  | .iter => List UInt8 × Nat × R
@[reducible] noncomputable def slotsX (R : Type) : List (Nat × VSh) → Type
  | [] => R
  | (_, x) :: r => VSh.cons (slotsX R r) x
@[reducible] noncomputable def objsX : List (Nat × OSh) → Type
  | [] => Unit
  | (_, x) :: r => OSh.cons (objsX r) x
@[reducible] noncomputable def Desc.X (d : Desc) : Type := slotsX (objsX d.objs) d.slots

noncomputable def packC {R : Type} (c : C) (r : R) : (x : Sh) → Option (Sh.cons R x)
  | .int k => match c with | .int k' n => if k = k' then some (n, r) else none | _ => none
  | .bool => match c with | .bool b => some (b, r) | _ => none
  | .str => match c with | .str s => some (s, r) | _ => none
  | .sl al t => match c with
    | .sl al' u xs => bif al || !al' then (match asL t u xs with | some ys => some (ys, r) | none => none) else none
    | .nil => some ([], r)
    | _ => none
  | .nil => match c with | .nil => some r | _ => none
  | .own id => match c with | .own i => bif Nat.beq i id then some r else none | _ => none
  | .view id => match c with | .view i a n => bif Nat.beq i id then some (a, n, r) else none | _ => none
noncomputable def packCs {R : Type} : List C → R → (xs : List Sh) → Option (Sh.conses R xs)
  | [], r, [] => some r
  | c :: cs, r, x :: xs => match packCs cs r xs with
    | some r' => packC c r' x
    | none => none
  | _, _, _ => none
noncomputable def flLe (al : Bool) : List C → Bool
  | [] => true
  | .sl a _ _ :: r => (al || !a) && flLe al r
  | _ :: r => flLe al r
noncomputable def packV {R : Type} (v : V) (r : R) : (x : VSh) → Option (VSh.cons R x)
  | .c x => match v with | .c c => packC c r x | _ => none
  | .agg xs => match v with | .agg cs => packCs cs r xs | _ => none
  | .av n t => match v with | .av m u ys => bif Nat.beq n m then (match asL t u ys with | some zs => some (zs, r) | none => none) else none | _ => none
  | .pt id off => match v with | .pt i o => bif Nat.beq i id && Nat.beq o off then some r else none | _ => none
  | .tv al t => match v with | .agg cs => (match unflat [] t cs with | some (x, []) => (bif flLe al cs then some (x, r) else none) | _ => none) | _ => none
noncomputable def packO {R : Type} (o : Obj) (r : R) : (x : OSh) → Option (OSh.cons R x)
  | .row e al t => match o with | .row e' al' u xs => bif Nat.beq e e' && (al || !al') then (match asL t u xs with | some ys => some (ys, r) | none => none) else none | _ => none
  | .box ty xs => match o with | .box ty' cs => bif Nat.beq ty ty' then packCs cs r xs else none | _ => none
  | .arr ty n t => match o with | .arr ty' m u xs => bif Nat.beq ty ty' && Nat.beq n m then (match asL t u xs with | some ys => some (ys, r) | none => none) else none | _ => none
  | .tb ty al t => match o with | .box ty' cs => bif Nat.beq ty ty' then (match unflat [] t cs with | some (x, []) => (bif flLe al cs then some (x, r) else none) | _ => none) else none | _ => none
  | .iter => match o with | .iter s p => some (s, p, r) | _ => none
noncomputable def packObjs (T : Tab) : (xs : List (Nat × OSh)) → Option (objsX xs)
  | [] => some ()
  | (id, x) :: r => match packObjs T r with
    | some r' => match get T id with
      | some o => packO o r' x
      | none => none
    | none => none
noncomputable def packSlots {R : Type} (e : Env) (r0 : R) : (xs : List (Nat × VSh)) → Option (slotsX R xs)
  | [] => some r0
  | (i, x) :: r => match packSlots e r0 r with
    | some r' => match get e i with
      | some v => packV v r' x
      | none => none
    | none => none
noncomputable def pack (d : Desc) (s : St) : Option d.X := match packObjs s.T d.objs with
  | some r => packSlots s.env r d.slots
  | none => none

noncomputable def unpackC {R : Type} : (x : Sh) → Sh.cons R x → C × R
  | .int k, (n, r) => (.int k n, r)
  | .bool, (b, r) => (.bool b, r)
  | .str, (s, r) => (.str s, r)
  | .sl al t, (xs, r) => (.sl al t xs, r)
  | .nil, r => (.nil, r)
  | .own id, r => (.own id, r)
  | .view id, (a, n, r) => (.view id a n, r)
noncomputable def unpackCs {R : Type} : (xs : List Sh) → Sh.conses R xs → List C × R
  | [], r => ([], r)
  | x :: xs, z => ((unpackC x z).1 :: (unpackCs xs (unpackC x z).2).1, (unpackCs xs (unpackC x z).2).2)
noncomputable def unpackV {R : Type} : (x : VSh) → VSh.cons R x → V × R
  | .c x, z => (.c (unpackC x z).1, (unpackC x z).2)
  | .agg xs, z => (.agg (unpackCs xs z).1, (unpackCs xs z).2)
  | .av n t, (xs, r) => (.av n t xs, r)
  | .pt id off, r => (.pt id off, r)
  | .tv al t, (x, r) => (.agg (flat al t x), r)
noncomputable def unpackO {R : Type} : (x : OSh) → OSh.cons R x → Obj × R
  | .row e al t, (xs, r) => (.row e al t xs, r)
  | .box ty xs, z => (.box ty (unpackCs xs z).1, (unpackCs xs z).2)
  | .arr ty n t, (xs, r) => (.arr ty n t xs, r)
  | .tb ty al t, (x, r) => (.box ty (flat al t x), r)
  | .iter, (s, p, r) => (.iter s p, r)
noncomputable def unpackObjs : (xs : List (Nat × OSh)) → objsX xs → Tab
  | [], _ => []
  | (id, x) :: r, z => (id, (unpackO x z).1) :: unpackObjs r (unpackO x z).2
noncomputable def unpackSlots {R : Type} : (xs : List (Nat × VSh)) → slotsX R xs → Env × R
  | [], r => ([], r)
  | (i, x) :: r, z => ((i, (unpackV x z).1) :: (unpackSlots r (unpackV x z).2).1, (unpackSlots r (unpackV x z).2).2)
noncomputable def unpack (d : Desc) (x : d.X) : St := ⟨(unpackSlots d.slots x).1, unpackObjs d.objs (unpackSlots d.slots x).2⟩

/-- What a Go function does, as a plain function. -/
structure Fn where
  din : Desc                      -- what it is handed: its parameters in slots 0, 1, ..; behind slot 1000000, once more, the objects that it gives back
  dout : Desc                     -- what it hands back
  outs : List (Bool × Ty)         -- of each result: is it a struct or an array; its type
  run : din.X → Option dout.X

/-! ## Operands and plain operations -/
noncomputable def constV : Value → Option V
  | .int k n => some (.c (.int k n))
  | .bool b => some (.c (.bool b))
  | .string s => some (.c (.str s.data.toList))
  | .slice none 0 0 => some (.c .nil)
  | _ => none
/-- A slot of the function's own: those from 1000000 on are ghosts. -/
noncomputable def getT (e : Env) (t : Nat) : Option V := bif Nat.blt t 1000000 then get e t else none
noncomputable def ev (s : St) : Operand → Option V
  | .tmp t => getT s.env t
  | .const v => constV v
  | _ => none

noncomputable def cellsOf : V → Option (List C)
  | .c x => some [x]
  | .agg cs => some cs
  | _ => none
noncomputable def mkV (agg : Bool) (cs : List C) : Option V := bif agg then some (.agg cs) else match cs with
  | [x] => some (.c x)
  | _ => none

noncomputable def eqC : C → C → Option Bool
  | .int k a, .int k' b => if k = k' then some (decide (a = b)) else none
  | .bool a, .bool b => some (a == b)
  | .str a, .str b => some (a == b)
  | _, _ => none
noncomputable def eqCs : List C → List C → Option Bool
  | [], [] => some true
  | [x], [y] => eqC x y
  | x :: xs, y :: ys => match eqC x y with
    | some b => match eqCs xs ys with
      | some c => some (b && c)
      | none => none
    | none => none
  | _, _ => none

noncomputable def lenC (T : Tab) : C → Option Int
  | .sl _ _ xs => some (xs.length : Int)
  | .nil => some 0
  | .str s => some (s.length : Int)
  | .own id => match get T id with
    | some (.row _ _ _ xs) => some (xs.length : Int)
    | some (.win _ _ xs) => some (xs.length : Int)
    | _ => none
  | .view _ _ len => some (len : Int)
  | _ => none

section
variable {ρ : Type}

noncomputable def intBin (op : BinOp) (k : IntKind) (a b : Int) (K : C → Option ρ) : Option ρ :=
  match op with
  | .add => K (.int k (k.wrap (a + b)))
  | .sub => K (.int k (k.wrap (a - b)))
  | .mul => K (.int k (k.wrap (a * b)))
  | .quo => if b = 0 then none else K (.int k (k.wrap (a.tdiv b)))
  | .rem => if b = 0 then none else K (.int k (a.tmod b))
  | .and => K (.int k (bits .and k a b))
  | .or => K (.int k (bits .or k a b))
  | .xor => K (.int k (bits .xor k a b))
  | .andNot => K (.int k (bits .andNot k a b))
  | .eql => K (.bool (decide (a = b)))
  | .neq => K (.bool (!decide (a = b)))
  | .lss => K (.bool (decide (a < b)))
  | .leq => K (.bool (decide (a ≤ b)))
  | .gtr => K (.bool (decide (b < a)))
  | .geq => K (.bool (decide (b ≤ a)))
  | _ => none
noncomputable def strBin (op : BinOp) (a b : List UInt8) (K : C → Option ρ) : Option ρ :=
  match op with
  | .add => if a.length + b.length ≤ 9223372036854775807 then K (.str (a ++ b)) else none
  | .eql => K (.bool (a == b))
  | .neq => K (.bool (!(a == b)))
  | .lss => K (.bool (Op.bytesLess a b))
  | .geq => K (.bool (!(Op.bytesLess a b)))
  | .gtr => K (.bool (Op.bytesLess b a))
  | .leq => K (.bool (!(Op.bytesLess b a)))
  | _ => none
noncomputable def cmpB : List Ty → List C → Bool
  | [], [] => true
  | .int k :: l, .int k' _ :: cs => decide (k = k') && cmpB l cs
  | .bool :: l, .bool _ :: cs => cmpB l cs
  | .str :: l, .str _ :: cs => cmpB l cs
  | _, _ => false
noncomputable def binV (bt : Bool) (ft : Option (List Ty)) (ak : Option (Nat × IntKind)) (op : BinOp) (x y : V) (K : C → Option ρ) : Option ρ :=
  match x, y with
  | .c (.int k a), .c (.int k' b) => match op with
    | .shl => if b < 0 then none else K (.int k (k.wrap (a * 2 ^ min b.toNat k.bits)))
    | .shr => if b < 0 then none else K (.int k (a / 2 ^ min b.toNat k.bits))
    | _ => if k = k' then intBin op k a b K else none
  | .c (.str a), .c (.str b) => strBin op a b K
  | .agg cs, .agg ds => match ft with
    | none => none
    | some l => bif cmpB l cs && cmpB l ds then (match eqCs cs ds with
      | none => none
      | some b => match op with
        | .eql => K (.bool b)
        | .neq => K (.bool (!b))
        | _ => none) else none
  | .av n (.int k) xs, .av m (.int k') ys => match ak with
    | none => none
    | some (p, q) => bif Nat.beq n m && decide (k = k') && decide (k = q) && Nat.beq n p then (match op with
      | .eql => K (.bool (decide (xs = ys)))
      | .neq => K (.bool (!decide (xs = ys)))
      | _ => none) else none
  | .c (.bool a), .c (.bool b) => bif bt then (match op with
    | .eql => K (.bool (a == b))
    | .neq => K (.bool (!(a == b)))
    | _ => none) else none
  | _, _ => none


/-- A character of a text: what it is, how many bytes it takes. -/
noncomputable def dec (xs : List UInt8) (p : Nat) : Nat × Nat := Utf8.decode ⟨xs.toArray⟩ p
noncomputable def isZ (z : Option Nat) (n : Nat) : Bool := match z with
  | some m => Nat.beq m n
  | none => false
/-- The length of a row of the call's own; z: its elements' size. -/
noncomputable def lenO (T : Tab) (z : Option Nat) (id : Nat) : Option Int := match get T id with
  | some (.row _ _ t xs) => bif isZ z t.size then some (xs.length : Int) else none
  | _ => none
/-- A cut of a read list, a string or a row of the call's own. -/
noncomputable def cutV (T : Tab) (z : Option Nat) (x : V) (lo hi : Option Int) (K : C → Option ρ) : Option ρ :=
  match x with
  | .c (.sl al t xs) => bif !isZ z t.size then none else match lo, hi with
    | none, none => K (.sl al t xs)
    | some l, none => if 0 ≤ l ∧ l ≤ (xs.length : Int) then K (.sl al t (xs.drop l.toNat)) else none
    | none, some h => if 0 ≤ h ∧ h ≤ (xs.length : Int) then K (.sl al t (xs.take h.toNat)) else none
    | some l, some h => if 0 ≤ l ∧ l ≤ h ∧ h ≤ (xs.length : Int) then K (.sl al t ((xs.take h.toNat).drop l.toNat)) else none
  | .c (.str xs) => match lo, hi with
    | none, none => K (.str xs)
    | some l, none => if 0 ≤ l ∧ l ≤ (xs.length : Int) then K (.str (xs.drop l.toNat)) else none
    | none, some h => if 0 ≤ h ∧ h ≤ (xs.length : Int) then K (.str (xs.take h.toNat)) else none
    | some l, some h => if 0 ≤ l ∧ l ≤ h ∧ h ≤ (xs.length : Int) then K (.str ((xs.take h.toNat).drop l.toNat)) else none
  | .c (.own id) => match lenO T z id with
    | none => none
    | some n => match lo, hi with
      | none, none => K (.own id)
      | some l, none => if 0 ≤ l ∧ l ≤ n then K (.view id l.toNat (n - l).toNat) else none
      | none, some h => if 0 ≤ h ∧ h ≤ n then K (.view id 0 h.toNat) else none
      | some l, some h => if 0 ≤ l ∧ l ≤ h ∧ h ≤ n then K (.view id l.toNat (h - l).toNat) else none
  | .c (.view id a n) => match lenO T z id with
    | none => none
    | some _ => match lo, hi with
    | none, none => K (.view id a n)
    | some l, none => if 0 ≤ l ∧ l ≤ (n : Int) then K (.view id (a + l.toNat) (n - l.toNat)) else none
    | none, some h => if 0 ≤ h ∧ h ≤ (n : Int) then K (.view id a h.toNat) else none
    | some l, some h => if 0 ≤ l ∧ l ≤ h ∧ h ≤ (n : Int) then K (.view id (a + l.toNat) (h - l).toNat) else none
  | .c .nil => bif z.isNone then none else match lo, hi with
    | none, none => K .nil
    | _, _ => none
  | _ => none

/-- The address of an element. -/
noncomputable def idxAddr (T : Tab) (z : Option Nat) (x : V) (i : Int) (K : V → Option ρ) : Option ρ :=
  match x with
  | .c (.sl al t xs) => bif !isZ z t.size then none else if 0 ≤ i ∧ i < (xs.length : Int) then K (.ra (flat al t (xs.getD i.toNat t.zero))) else none
  | .c (.own id) => match lenO T z id with
    | some n => if 0 ≤ i ∧ i < n then K (.oa id i.toNat 0) else none
    | none => none
  | .c (.view id a n) => match lenO T z id with
    | some _ => if 0 ≤ i ∧ i < (n : Int) then K (.oa id (a + i.toNat) 0) else none
    | none => none
  | .pt id 0 => match get T id with
    | some (.arr _ n t _) => bif !isZ z t.size then none else if 0 ≤ i ∧ i < (n : Int) then K (.oa id i.toNat 0) else none
    | _ => none
  | _ => none

/-- What n cells at an address hold. -/
noncomputable def cellsAt (T : Tab) (x : V) (n : Nat) : Option (List C) :=
  match x with
  | .ra cs => bif Nat.ble n cs.length then some (cs.take n) else none
  | .pt id off => match get T id with
    | some (.box _ cs) => bif Nat.ble (off + n) cs.length then some ((cs.drop off).take n) else none
    | _ => none
  | .oa id i off => match get T id with
    | some (.row _ al t xs) => bif Nat.ble (off + n) t.size then some (((flat al t (xs.getD i t.zero)).drop off).take n) else none
    | some (.win al t xs) => bif Nat.ble (off + n) t.size then some (((flat al t (xs.getD i t.zero)).drop off).take n) else none
    | some (.arr _ _ t xs) => bif Nat.ble (off + n) t.size then some (((flat false t (xs.getD i t.zero)).drop off).take n) else none
    | _ => none
  | _ => none

end


/-! ## What becomes of the rows -/
/-- Every mention of row id struck: it has been handed over. -/
noncomputable def purgeC (id : Nat) : C → C
  | .own i => bif Nat.beq i id then .undef else .own i
  | .view i a n => bif Nat.beq i id then .undef else .view i a n
  | x => x
noncomputable def mapV (f : C → C) (g : Nat → Bool) : V → V      -- g: of which rows and variables the addresses stay
  | .c x => .c (f x)
  | .agg cs => .agg (cs.map f)
  | .tup vs => .tup (vs.map fun x => (x.1, x.2.map f))
  | .av n t xs => .av n t xs
  | .ra cs => .ra (cs.map f)
  | .oa id i off => bif g id then .oa id i off else .undef
  | .pt id off => bif g id then .pt id off else .undef
  | .cap id k => bif g id then .cap id k else .undef
  | .skip => .skip
  | .undef => .undef
noncomputable def mapE (f : C → C) (g : Nat → Bool) (e : Env) : Env := e.map fun x => (x.1, mapV f g x.2)
noncomputable def mapO (f : C → C) : Obj → Obj
  | .box ty cs => .box ty (cs.map f)
  | o => o
noncomputable def mapT (f : C → C) (T : Tab) : Tab := T.map fun x => (x.1, mapO f x.2)
/-- An object away, and every mention of it. -/
noncomputable def dropO (id : Nat) (s : St) : St := ⟨mapE (purgeC id) (fun i => !Nat.beq i id) s.env, mapT (purgeC id) (del s.T id)⟩
/-- Every other mention of the row away; the row stays. -/
noncomputable def purge (id : Nat) (s : St) : St := ⟨mapE (purgeC id) (fun i => !Nat.beq i id) s.env, mapT (purgeC id) s.T⟩
/-- A row of the call's own that is only read from here on. -/
noncomputable def freezeC (id : Nat) (al : Bool) (t : Ty) (xs : List t.den) : C → C
  | .own i => bif Nat.beq i id then .sl al t xs else .own i
  | .view i a n => bif Nat.beq i id then .sl al t ((xs.drop a).take n) else .view i a n
  | x => x
noncomputable def freeze (id : Nat) (s : St) : Option St := match get s.T id with
  | some (.row _ al t xs) => some ⟨mapE (freezeC id al t xs) (fun i => !Nat.beq i id) s.env, mapT (freezeC id al t xs) (del s.T id)⟩
  | _ => none
/-- The rows that cells mention. -/
noncomputable def idsOf : List C → List Nat
  | [] => []
  | .own id :: r => id :: idsOf r
  | .view id _ _ :: r => id :: idsOf r
  | _ :: r => idsOf r
noncomputable def freezeAll : List Nat → St → Option St
  | [], s => some s
  | id :: r, s => match get s.T id with
    | none => freezeAll r s
    | some _ => match freeze id s with
      | some s' => freezeAll r s'
      | none => none
/-- Do cells lead to what came in. -/
noncomputable def alOf (T : Tab) : List C → Bool
  | [] => false
  | .sl al _ _ :: r => al || alOf T r
  | .own id :: r => (match get T id with | some (.row _ al _ _) => al | some (.win al _ _) => al | _ => false) || alOf T r
  | .view id _ _ :: r => (match get T id with | some (.row _ al _ _) => al | some (.win al _ _) => al | _ => false) || alOf T r
  | _ :: r => alOf T r
noncomputable def Ty.hasSl : Ty → Bool
  | .sl _ => true
  | .arr _ t => t.hasSl
  | .pair a b => a.hasSl || b.hasSl
  | _ => false
/-- A new object: its number must be free. -/
noncomputable def newO (id : Nat) (o : Obj) (s : St) : Option St := match get s.T id with
  | none => some ⟨s.env, (id, o) :: s.T⟩
  | some _ => none
noncomputable def setO (id : Nat) (o : Obj) (s : St) : St := ⟨s.env, (id, o) :: del s.T id⟩

/-! ### Before a seam: rows take the numbers that the shape asks, nil slices become rows, other rows are frozen -/
/-- Two numbers change places. -/
noncomputable def sw (i j k : Nat) : Nat := bif Nat.beq k i then j else bif Nat.beq k j then i else k
noncomputable def renC (i j : Nat) : C → C
  | .own id => .own (sw i j id)
  | .view id a n => .view (sw i j id) a n
  | x => x
noncomputable def renV (i j : Nat) : V → V
  | .c x => .c (renC i j x)
  | .agg cs => .agg (cs.map (renC i j))
  | .tup vs => .tup (vs.map fun x => (x.1, x.2.map (renC i j)))
  | .ra cs => .ra (cs.map (renC i j))
  | .oa id a off => .oa (sw i j id) a off
  | .pt id off => .pt (sw i j id) off
  | .cap id k => .cap (sw i j id) k
  | v => v
noncomputable def renO (i j : Nat) : Obj → Obj
  | .box ty cs => .box ty (cs.map (renC i j))
  | o => o
noncomputable def renT (i j : Nat) : Tab → Tab
  | [] => []
  | (id, o) :: r => (sw i j id, renO i j o) :: renT i j r
/-- Object i is called j from here on, and what was called j is called i. -/
noncomputable def ren (i j : Nat) (s : St) : Option St := bif Nat.beq i j then some s else some ⟨s.env.map fun x => (x.1, renV i j x.2), renT i j s.T⟩
noncomputable def rowSh (objs : List (Nat × OSh)) (id : Nat) : Option OSh := get objs id
noncomputable def setCs : List C → Nat → C → List C
  | [], _, _ => []
  | _ :: r, 0, x => x :: r
  | c :: r, n + 1, x => c :: setCs r n x
noncomputable def claimAgg (objs : List (Nat × OSh)) (i j id : Nat) (s : St) : Option St := match get s.env i with
  | some (.agg cs) => match cs[j]? with
    | some (.own k) => ren k id s
    | some .nil => match rowSh objs id with
      | some (.row e al t) => newO id (.row e al t []) ⟨put s.env i (.agg (setCs cs j (.own id))), s.T⟩
      | _ => none
    | _ => none
  | _ => none
noncomputable def claimAggs (objs : List (Nat × OSh)) (i : Nat) : Nat → List Sh → St → Option St
  | _, [], s => some s
  | j, .own id :: r, s => match claimAgg objs i j id s with
    | some s' => claimAggs objs i (j + 1) r s'
    | none => none
  | j, _ :: r, s => claimAggs objs i (j + 1) r s
noncomputable def claimView (i id : Nat) (s : St) : Option St := match get s.env i with
  | some (.c (.view j _ _)) => ren j id s
  | some (.c (.own j)) => match get s.T j with
    | some (.row _ _ _ xs) => ren j id ⟨put s.env i (.c (.view j 0 xs.length)), s.T⟩
    | _ => none
  | _ => none
noncomputable def claimPt (i id : Nat) (s : St) : Option St := match get s.env i with
  | some (.pt j _) => ren j id s
  | _ => none
/-- Slot i holds row id from here on. -/
noncomputable def claimSlot (objs : List (Nat × OSh)) (i id : Nat) (s : St) : Option St := match get s.env i with
  | some (.c (.own j)) => ren j id s
  | some (.c .nil) => match rowSh objs id with
    | some (.row e al t) => newO id (.row e al t []) ⟨put s.env i (.c (.own id)), s.T⟩
    | _ => none
  | _ => none
noncomputable def claimSlots (objs : List (Nat × OSh)) : List (Nat × VSh) → St → Option St
  | [], s => some s
  | (i, .c (.own id)) :: r, s => match claimSlot objs i id s with
    | some s' => claimSlots objs r s'
    | none => none
  | (i, .c (.view id)) :: r, s => match claimView i id s with
    | some s' => claimSlots objs r s'
    | none => none
  | (i, .pt id _) :: r, s => match claimPt i id s with
    | some s' => claimSlots objs r s'
    | none => none
  | (i, .agg xs) :: r, s => match claimAggs objs i 0 xs s with
    | some s' => claimSlots objs r s'
    | none => none
  | _ :: r, s => claimSlots objs r s
noncomputable def claimCell (objs : List (Nat × OSh)) (b j id : Nat) (s : St) : Option St := match get s.T b with
  | some (.box ty cs) => match cs[j]? with
    | some (.own i) => ren i id s
    | some .nil => match rowSh objs id with
      | some (.row e al t) => newO id (.row e al t []) (setO b (.box ty (setCs cs j (.own id))) s)
      | _ => none
    | _ => none
  | _ => none
noncomputable def claimCells (objs : List (Nat × OSh)) (b : Nat) : Nat → List Sh → St → Option St
  | _, [], s => some s
  | j, .own id :: r, s => match claimCell objs b j id s with
    | some s' => claimCells objs b (j + 1) r s'
    | none => none
  | j, _ :: r, s => claimCells objs b (j + 1) r s
noncomputable def claimBoxes (objs : List (Nat × OSh)) : List (Nat × OSh) → St → Option St
  | [], s => some s
  | (b, .box _ xs) :: r, s => match claimCells objs b 0 xs s with
    | some s' => claimBoxes objs r s'
    | none => none
  | _ :: r, s => claimBoxes objs r s
/-- The rows that no shape names. -/
noncomputable def otherRows (objs : List (Nat × OSh)) : Tab → List Nat
  | [] => []
  | (id, .row _ _ _ _) :: r => (match get objs id with | some _ => otherRows objs r | none => id :: otherRows objs r)
  | _ :: r => otherRows objs r
/-- Does a shape name no row that it does not hold. -/
noncomputable def idOk (objs : List (Nat × OSh)) : Sh → Bool
  | .own id => (get objs id).isSome
  | .view id => (get objs id).isSome
  | _ => true
noncomputable def vOk (objs : List (Nat × OSh)) : VSh → Bool
  | .c x => idOk objs x
  | .agg xs => xs.all (idOk objs)
  | .pt id _ => (get objs id).isSome
  | .av _ _ => true
  | .tv _ _ => true
noncomputable def oOk (objs : List (Nat × OSh)) : OSh → Bool
  | .box _ xs => xs.all (idOk objs)
  | _ => true
noncomputable def closed (d : Desc) : Bool := d.slots.all (fun x => vOk d.objs x.2) && d.objs.all (fun x => oOk d.objs x.2)
noncomputable def enter (d : Desc) (s : St) : Option d.X := bif !closed d then none else match claimSlots d.objs d.slots s with
  | some s1 => match claimBoxes d.objs d.objs s1 with
    | some s2 => match freezeAll (otherRows d.objs s2.T) s2 with
      | some s3 => pack d s3
      | none => none
    | none => none
  | none => none


/-! ## Operations -/
structure Ctx where
  ti : List (Nat × TI)
  calls : List (Nat × Fn)
  n : Nat                 -- how many slots

section
variable {ρ : Type} (G : Ctx)

noncomputable def tiOf (t : TypeId) : TI := (get G.ti t).getD {}
/-- The type's values, where they are no struct and no array. -/
noncomputable def plainTy (t : TypeId) : Option Ty := bif (tiOf G t).agg then none else (tiOf G t).ty
/-- A slice's elements. -/
noncomputable def slE (t : TypeId) : Option (TypeId × Ty) := match plainTy G t, (tiOf G t).elem with
  | some (.sl _), some e => match (tiOf G e).ty with
    | some u => some (e, u)
    | none => none
  | _, _ => none
/-- The size of a type's elements: of a slice's, or of an array's of n. -/
noncomputable def eszS (t : TypeId) : Option Nat := match slE G t with
  | some (_, u) => some u.size
  | none => none
noncomputable def arE (t : TypeId) : Option (Nat × Ty) := match (tiOf G t).ty, (tiOf G t).elem with
  | some (.arr n u), some _ => some (n, u)
  | _, _ => none
noncomputable def eszA (t : TypeId) : Option Nat := match arE G t with
  | some (_, u) => some u.size
  | none => none
noncomputable def isBytes (t : TypeId) : Bool := match slE G t with
  | some (e, _) => (match plainTy G e with
    | some (.int .u8) => true
    | _ => false)
  | none => false
noncomputable def isBoolT (t : TypeId) : Bool := match plainTy G t with
  | some .bool => true
  | _ => false
noncomputable def feqN (t : TypeId) : Option (List Ty) := match (tiOf G t).ty with
  | some _ => (tiOf G t).feq
  | none => none
noncomputable def aeqN (t : TypeId) : Option (Nat × IntKind) := match (tiOf G t).ty with
  | some (.arr n _) => (match (tiOf G t).aeq with
    | some k => some (n, k)
    | none => none)
  | _ => none
noncomputable def isStrT (t : TypeId) : Bool := match plainTy G t with
  | some .str => true
  | _ => false
noncomputable def evC (s : St) (x : Operand) : Option C := match ev s x with
  | some (.c c) => some c
  | _ => none
noncomputable def evI (s : St) (x : Operand) : Option Int := match ev s x with
  | some (.c (.int _ n)) => some n
  | _ => none
/-- An operand that may lack: none is 'not there'. -/
noncomputable def evO (s : St) : Option Operand → Option (Option Int)
  | none => some none
  | some x => match evI s x with
    | some n => some (some n)
    | none => none
noncomputable def evAll (s : St) : List Operand → Option (List V)
  | [] => some []
  | x :: r => match ev s x with
    | some v => match evAll s r with
      | some vs => some (v :: vs)
      | none => none
    | none => none

/-- The cells of a variable that is all zero. -/
noncomputable def zeroC : Ty → List C
  | .int k => [.int k 0]
  | .bool => [.bool false]
  | .str => [.str []]
  | .unit => []
  | .sl _ => [.nil]
  | .arr n t => (List.replicate n ()).flatMap fun _ => zeroC t
  | .pair a b => zeroC a ++ zeroC b

noncomputable def spliceC (cs : List C) (off : Nat) (new : List C) : Option (List C) :=
  bif Nat.ble (off + new.length) cs.length then some (cs.take off ++ new ++ cs.drop (off + new.length)) else none

noncomputable def castX {t u : Ty} (h : t = u) (x : t.den) : u.den := cast (congrArg Ty.den h) x

/-- A value out of a type's cells. -/
noncomputable def valOf (ti : TI) (cs : List C) : Option V := mkV ti.agg cs

/-- Cells written into element i of a row. -/
noncomputable def setEl (T : Tab) (al : Bool) (t : Ty) (xs : List t.den) (i off : Nat) (new : List C) : Option (List t.den × Bool) :=
  bif !(idsOf new).isEmpty then none else match spliceC (flat al t (xs.getD i t.zero)) off new with
  | some cs => match unflat T t cs with
    | some (x, []) => some (xs.set i x, al || (t.hasSl && alOf T new))
    | _ => none
  | none => none

noncomputable def storeAt (s : St) (ad : V) (new : List C) : Option St :=
  match ad with
  | .pt id off => match get s.T id with
    | some (.box ty cs) => match spliceC cs off new with
      | some cs' => some (setO id (.box ty cs') s)
      | none => none
    | _ => none
  | .oa id i off => match get s.T id with
    | some (.row e al t xs) => match setEl s.T al t xs i off new with
      | some (xs', al') => some (setO id (.row e al' t xs') s)
      | none => none
    | some (.win al t xs) => match setEl s.T al t xs i off new with
      | some (xs', al') => bif al' == al then some (setO id (.win al t xs') s) else none
      | none => none
    | some (.arr ty n t xs) => bif t.hasSl then none else match setEl s.T false t xs i off new with
      | some (xs', _) => some (setO id (.arr ty n t xs') s)
      | none => none
    | _ => none
  | _ => none

noncomputable def unflatL (T : Tab) (t : Ty) : List (List C) → Option (List t.den)
  | [] => some []
  | cs :: r => match unflat T t cs with
    | some (x, []) => match unflatL T t r with
      | some xs => some (x :: xs)
      | none => none
    | _ => none
noncomputable def alOfs (T : Tab) : List (List C) → Bool
  | [] => false
  | cs :: r => alOf T cs || alOfs T r
noncomputable def cellss : List V → Option (List (List C))
  | [] => some []
  | v :: r => match cellsOf v with
    | some cs => match cellss r with
      | some css => some (cs :: css)
      | none => none
    | none => none
noncomputable def idxs : Nat → List (Nat × Operand) → Bool
  | _, [] => true
  | n, (i, _) :: r => Nat.beq i n && idxs (n + 1) r

/-! ### append, copy -/
noncomputable def appendTo (s : St) (d : Nat) (e : TypeId) (t : Ty) (bytes : Nat) (dst : C) (ys : List t.den) (alY : Bool) (K : V → St → Option ρ) : Option ρ :=
  match dst with
  | .nil => if ys.length * bytes ≤ 140737488355328 then (match newO d (.row e alY t ys) s with
      | some s' => K (.c (.own d)) s'
      | none => none) else none
  | .own id => match get s.T id with
    | some (.row e' al u xs) => match asL t u xs with
      | some xs => bif Nat.beq e e' then (if (xs.length + ys.length) * bytes ≤ 140737488355328 then K (.c (.own id)) (setO id (.row e (al || alY) t (xs ++ ys)) (purge id s)) else none) else none
      | none => none
    | _ => none
  | .view id 0 len => match get s.T id with
    | some (.row e' al u xs) => match asL t u xs with
      | some xs => bif Nat.beq e e' then (if (len + ys.length) * bytes ≤ 140737488355328 then K (.c (.own id)) (setO id (.row e (al || alY) t (xs.take len ++ ys)) (purge id s)) else none) else none
      | none => none
    | _ => none
  | _ => none

/-- append onto a row that is cut off behind: what comes of it is only read. -/
noncomputable def appendCap (s : St) (e : TypeId) (t : Ty) (bytes : Nat) (id k : Nat) (ys : List t.den) (alY : Bool) (K : V → St → Option ρ) : Option ρ :=
  match get s.T id with
    | some (.row e' al u xs) => match asL t u xs with
      | some xs => bif Nat.beq e e' then (if (k + ys.length) * bytes ≤ 140737488355328 then (match freeze id (setO id (.row e (al || alY) t (xs.take k ++ ys)) (purge id s)) with
        | some s' => K (.c (.sl (al || alY) t (xs.take k ++ ys))) s'
        | none => none) else none) else none
      | none => none
    | _ => none

noncomputable def lenK (s : St) (t : TypeId) (x : V) (K : V → St → Option ρ) : Option ρ := match x with
  | .c (.str b) => bif isStrT G t then K (.c (.int .i64 (b.length : Int))) s else none
  | .c c => match lenC s.T c with
    | some n => bif (eszS G t).isSome then K (.c (.int .i64 n)) s else none
    | none => none
  | .av n _ _ => match arE G t with
    | some (m, _) => bif Nat.beq n m then K (.c (.int .i64 (n : Int))) s else none
    | _ => none
  | _ => none

noncomputable def minmax (mx : Bool) (s : St) (k : IntKind) (a : Int) : List V → (V → St → Option ρ) → Option ρ
  | [], K => K (.c (.int k a)) s
  | .c (.int k' b) :: r, K => if k = k' then minmax mx s k (bif mx then max a b else min a b) r K else none
  | _, _ => none

noncomputable def builtinK (s : St) (d : Nat) (b : Builtin) (argTypes : List TypeId) (vs : List V) (K : V → St → Option ρ) : Option ρ :=
  match b, vs with
  | .len, [x] => match argTypes with
    | [t] => lenK G s t x K
    | _ => none
  | .min, .c (.int k a) :: r => minmax false s k a r K
  | .max, .c (.int k a) :: r => minmax true s k a r K
  | .append, [.c dst, .c src] => match argTypes with
    | [t0, t1] => match slE G t0 with
      | some (e, t) => bif Nat.beq t.size 0 || Nat.beq (tiOf G e).bytes 0 then none else match src with
        | .str xs => match t with
          | .int .u8 => bif isStrT G t1 then appendTo s d e (.int .u8) (tiOf G e).bytes dst (xs.map fun b => (b.toNat : Int)) false K else none
          | _ => none
        | _ => match cont s.T t src with
          | some ys => bif (slE G t1).isSome then appendTo s d e t (tiOf G e).bytes dst ys (t.hasSl && alOf s.T [src]) K else none
          | none => none
      | none => none
    | _ => none
  | .append, [.cap id k, .c src] => match argTypes with
    | [t0, t1] => match slE G t0 with
      | some (e, t) => bif Nat.beq t.size 0 || Nat.beq (tiOf G e).bytes 0 then none else match cont s.T t src with
          | some ys => bif (slE G t1).isSome then appendCap s e t (tiOf G e).bytes id k ys (t.hasSl && alOf s.T [src]) K else none
          | none => none
      | none => none
    | _ => none
  | _, _ => none

/-! ### calls -/
noncomputable def argCells : List V → List C
  | [] => []
  | .c x :: r => x :: argCells r
  | .agg cs :: r => cs ++ argCells r
  | _ :: r => argCells r
noncomputable def argE (n : Nat) : List V → Env
  | [] => []
  | v :: r => (n, v) :: argE (n + 1) r
/-- A cell as one that is only read, but for the objects that are handed over. -/
noncomputable def readC (T : Tab) (objs : List (Nat × OSh)) : C → Option C
  | .sl _ t xs => some (.sl true t xs)
  | .own id => match get objs id with
    | some _ => some (.own id)
    | none => match get T id with
      | some (.row _ _ t xs) => some (.sl true t xs)
      | _ => none
  | .view id lo len => match get objs id with
    | some _ => some (.view id lo len)
    | none => match get T id with
      | some (.row _ _ t xs) => some (.sl true t ((xs.drop lo).take len))
      | _ => none
  | .undef => none
  | c => some c
noncomputable def readCs (T : Tab) (objs : List (Nat × OSh)) : List C → Option (List C)
  | [] => some []
  | c :: r => match readC T objs c with
    | some c' => match readCs T objs r with
      | some r' => some (c' :: r')
      | none => none
    | none => none
noncomputable def readV (T : Tab) (objs : List (Nat × OSh)) : V → Option V
  | .c x => match readC T objs x with
    | some x' => some (.c x')
    | none => none
  | .agg cs => match readCs T objs cs with
    | some cs' => some (.agg cs')
    | none => none
  | .av n t xs => some (.av n t xs)
  | .pt id off => match get objs id with
    | some _ => some (.pt id off)
    | none => none
  | _ => none
noncomputable def readE (T : Tab) (objs : List (Nat × OSh)) : Env → Option Env
  | [] => some []
  | (i, v) :: r => match readV T objs v with
    | some v' => match readE T objs r with
      | some r' => some ((i, v') :: r')
      | none => none
    | none => none
noncomputable def readO (T : Tab) (objs : List (Nat × OSh)) : Obj → Option Obj
  | .row e _ t xs => some (.row e t.hasSl t xs)
  | .box ty cs => match readCs T objs cs with
    | some cs' => some (.box ty cs')
    | none => none
  | .arr ty n t xs => some (.arr ty n t xs)
  | .win _ _ _ => none
  | .iter _ _ => none
noncomputable def readT (T : Tab) (objs : List (Nat × OSh)) : List (Nat × OSh) → Option Tab
  | [] => some []
  | (id, _) :: r => match get T id with
    | some o => match readO T objs o with
      | some o' => match readT T objs r with
        | some r' => some ((id, o') :: r')
        | none => none
      | none => none
    | none => none
/-- Does what is handed back lead to what came in. -/
noncomputable def shAl : Sh → Bool
  | .sl al _ => al
  | _ => false
noncomputable def vAl : VSh → Bool
  | .c x => shAl x
  | .agg xs => xs.any shAl
  | .tv al _ => al
  | _ => false
noncomputable def oAl : OSh → Bool
  | .row _ al _ => al
  | .box _ xs => xs.any shAl
  | .arr _ _ _ => false
  | .tb _ al _ => al
  | .iter => false
noncomputable def hasAl (d : Desc) : Bool := d.slots.any (fun x => vAl x.2) || d.objs.any (fun x => oAl x.2)
/-- The numbers of what is handed back: what was handed over keeps its own. -/
noncomputable def hN (gb : List Nat) (b id : Nat) : Nat := bif has gb id then id else b + id
noncomputable def fixC (al : Bool) (gb : List Nat) (b : Nat) : C → C
  | .sl a t xs => .sl (a && al) t xs
  | .own id => .own (hN gb b id)
  | .view id lo len => .view (hN gb b id) lo len
  | c => c
noncomputable def fixV (al : Bool) (gb : List Nat) (b : Nat) : V → V
  | .c x => .c (fixC al gb b x)
  | .agg cs => .agg (cs.map (fixC al gb b))
  | .av n t xs => .av n t xs
  | .pt id off => .pt (hN gb b id) off
  | _ => .undef
noncomputable def fixO (al : Bool) (gb : List Nat) (b : Nat) : Obj → Obj
  | .row e a t xs => .row e (a && al) t xs
  | .box ty cs => .box ty (cs.map (fixC al gb b))
  | o => o
noncomputable def addObjs (al : Bool) (gb : List Nat) (b : Nat) : Tab → St → Option St
  | [], s => some s
  | (id, o) :: r, s => match addObjs al gb b r s with
    | some s' => bif has gb id then some (setO id (fixO al gb b o) s') else newO (b + id) (fixO al gb b o) s'
    | none => none
/-- The results as one value. -/
noncomputable def partsE (al : Bool) (gb : List Nat) (b : Nat) : Env → Option (List (Bool × List C))
  | [] => some []
  | (i, v) :: r => bif Nat.blt i 1000000 then (match v with
      | .c x => match partsE al gb b r with
        | some l => some ((false, [fixC al gb b x]) :: l)
        | none => none
      | .agg cs => match partsE al gb b r with
        | some l => some ((true, cs.map (fixC al gb b)) :: l)
        | none => none
      | _ => none) else partsE al gb b r
noncomputable def oneE : Env → Bool
  | [] => true
  | (i, _) :: r => Nat.ble 1000000 i && oneE r
noncomputable def resE (al : Bool) (gb : List Nat) (b : Nat) (e : Env) : Option V := match e with
  | (0, v) :: r => bif oneE r then some (fixV al gb b v) else match partsE al gb b ((0, v) :: r) with
    | some l => some (.tup l)
    | none => none
  | e => match partsE al gb b e with
    | some l => some (.tup l)
    | none => none
/-- A call that hands no objects over: own rows among what is handed are only read from here on where the results may lead to them. -/
noncomputable def callR (F : Fn) (s : St) (d : Nat) (vs : List V) (K : V → St → Option ρ) : Option ρ :=
  bif !closed F.din then none else
  match readE s.T [] (argE 0 vs) with
  | none => none
  | some e => match pack F.din ⟨e, []⟩ with
    | none => none
    | some x => match (bif hasAl F.dout then freezeAll (idsOf (argCells vs)) s else some s) with
      | none => none
      | some s1 => (F.run x).bind fun r => match addObjs (alOf s.T (argCells vs)) [] (1000 * (d + 1)) (unpack F.dout r).T s1 with
        | some s2 => match resE (alOf s.T (argCells vs)) [] (1000 * (d + 1)) (unpack F.dout r).env with
          | some v => K v s2
          | none => none
        | none => none

noncomputable def lift (n : Nat) : List (Nat × VSh) → List (Nat × VSh)
  | [] => []
  | (i, x) :: r => (n + i, x) :: lift n r
noncomputable def parms : List (Nat × VSh) → List (Nat × VSh)
  | [] => []
  | (i, x) :: r => bif Nat.blt i 1000000 then (i, x) :: parms r else parms r
noncomputable def argVs (n : Nat) : List (Nat × VSh) → Env → Option Env
  | [], _ => some []
  | (i, _) :: r, e => match get e (n + i) with
    | some v => match argVs n r e with
      | some l => some ((i, v) :: l)
      | none => none
    | none => none
/-- The ghosts: what a function gives back. -/
noncomputable def ghosts : List (Nat × VSh) → Tab → Option Env
  | [], _ => some []
  | (i, x) :: r, T => bif Nat.blt i 1000000 then ghosts r T else match x with
    | .pt id 0 => match get T id with
      | some (.box _ _) => match ghosts r T with
        | some l => some ((i, .pt id 0) :: l)
        | none => none
      | some (.arr _ _ _ _) => match ghosts r T with
        | some l => some ((i, .pt id 0) :: l)
        | none => none
      | _ => none
    | .c (.own id) => match get T id with
      | some (.row _ _ _ _) => match ghosts r T with
        | some l => some ((i, .c (.own id)) :: l)
        | none => none
      | _ => none
    | _ => none
noncomputable def gbs : List (Nat × VSh) → List Nat
  | [] => []
  | (i, x) :: r => bif Nat.blt i 1000000 then gbs r else match x with
    | .pt id _ => id :: gbs r
    | .c (.own id) => id :: gbs r
    | _ => gbs r
noncomputable def lentCells (T : Tab) : List (Nat × OSh) → List C
  | [] => []
  | (id, _) :: r => (match get T id with
    | some (.box _ cs) => cs
    | _ => []) ++ lentCells T r
noncomputable def otherIds (objs : List (Nat × OSh)) : List Nat → List Nat
  | [] => []
  | i :: r => match get objs i with
    | some _ => otherIds objs r
    | none => i :: otherIds objs r
noncomputable def dropAll (gb : List Nat) : List (Nat × OSh) → St → St
  | [], s => s
  | (id, _) :: r, s => dropAll gb r (bif has gb id then s else dropO id s)
/-- The parameters' slots: below the number of arguments. -/
noncomputable def keysB (m : Nat) : List (Nat × VSh) → Bool
  | [] => true
  | (i, _) :: r => (bif Nat.blt i 1000000 then Nat.blt i m else Nat.blt i 1900000) && keysB m r
noncomputable def sameKind : OSh → OSh → Bool
  | .row _ _ t, .row _ _ u => Nat.beq t.size u.size
  | .box _ _, .box _ _ => true
  | .tb _ _ _, .box _ _ => true
  | .box _ _, .tb _ _ _ => true
  | .tb _ _ _, .tb _ _ _ => true
  | .arr _ n t, .arr _ m u => Nat.beq n m && Nat.beq t.size u.size
  | _, _ => false
/-- What is given back is what was handed over. -/
noncomputable def ghEq (din dout : Desc) : List (Nat × VSh) → Bool
  | [] => true
  | (k, x) :: r => (bif Nat.blt k 1000000 then true else match x with
    | .pt id 0 => (match get din.slots k with
      | some (.pt id' 0) => Nat.beq id id'
      | _ => false) && (match get din.objs id, get dout.objs id with
      | some p, some q => sameKind p q
      | _, _ => false)
    | .c (.own id) => (match get din.slots k with
      | some (.c (.own id')) => Nat.beq id id'
      | _ => false) && (match get din.objs id, get dout.objs id with
      | some p, some q => sameKind p q
      | _, _ => false)
    | _ => false) && ghEq din dout r
noncomputable def valsOf : Env → List V
  | [] => []
  | (_, v) :: r => v :: valsOf r
/-- What is given back takes the numbers that it had. -/
noncomputable def backs (gb : List Nat) : List (Nat × VSh) → List V → List (Nat × Nat)
  | (_, x) :: r, v :: vs => (match x, v with
    | .pt id _, .pt j _ => bif has gb id then [(id, j)] else []
    | .c (.own id), .c (.own j) => bif has gb id then [(id, j)] else []
    | .c (.view id), .c (.own j) => bif has gb id then [(id, j)] else []
    | .c (.view id), .c (.view j _ _) => bif has gb id then [(id, j)] else []
    | _, _ => []) ++ backs gb r vs
  | _, _ => []
noncomputable def renAll : List (Nat × Nat) → St → Option St
  | [], s => some s
  | (i, j) :: r, s => match ren i j s with
    | some s' => renAll r s'
    | none => none
noncomputable def below2 : Env → Env
  | [] => []
  | (i, v) :: r => bif Nat.blt i 2000000 then (i, v) :: below2 r else below2 r
/-- What is read of what is handed over: the cells that may lead somewhere. -/
noncomputable def handed (F : Fn) (s1 : St) (ve : Env) : List C := argCells (valsOf ve) ++ lentCells s1.T F.din.objs ++ F.din.objs.map fun x => C.own x.1
/-- A call that hands objects over. -/
noncomputable def callL (F : Fn) (s : St) (d : Nat) (vs : List V) (K : V → St → Option ρ) : Option ρ :=
  bif !(closed F.din && keysB vs.length F.din.slots && ghEq F.din F.dout F.dout.slots) then none else
  match claimSlots F.din.objs (lift 2000000 (parms F.din.slots)) ⟨argE 2000000 vs ++ below2 s.env, s.T⟩ with
  | none => none
  | some s0 => match claimBoxes F.din.objs F.din.objs s0 with
    | none => none
    | some s1 => match argVs 2000000 (parms F.din.slots) s1.env with
      | none => none
      | some ve => match ghosts F.din.slots s1.T with
        | none => none
        | some ge => match readE s1.T F.din.objs (ve ++ ge) with
          | none => none
          | some e => match readT s1.T F.din.objs F.din.objs with
            | none => none
            | some T => match pack F.din ⟨e, T⟩ with
              | none => none
              | some x => match (bif hasAl F.dout then freezeAll (otherIds F.din.objs (idsOf (handed F s1 ve))) s1 else some s1) with
                | none => none
                | some s2 => (F.run x).bind fun r => match addObjs (alOf s1.T (handed F s1 ve)) (gbs F.dout.slots) (1000 * (d + 1)) (unpack F.dout r).T (dropAll (gbs F.dout.slots) F.din.objs s2) with
                  | none => none
                  | some s3 => match resE (alOf s1.T (handed F s1 ve)) (gbs F.dout.slots) (1000 * (d + 1)) (unpack F.dout r).env with
                    | none => none
                    | some v => match renAll (backs (gbs F.dout.slots) (parms F.din.slots) vs) ⟨(2999999, v) :: s3.env, s3.T⟩ with
                      | none => none
                      | some s4 => match get s4.env 2999999 with
                        | none => none
                        | some v' => K v' ⟨below2 s4.env, s4.T⟩
noncomputable def cntB : List (Nat × VSh) → Nat
  | [] => 0
  | (i, _) :: r => bif Nat.blt i 1000000 then cntB r + 1 else cntB r
noncomputable def callK (F : Fn) (s : St) (d : Nat) (vs : List V) (K : V → St → Option ρ) : Option ρ :=
  bif Nat.ble vs.length 1000 && Nat.beq vs.length (cntB F.din.slots) then (bif F.din.objs.isEmpty then callR F s d vs K else callL F s d vs K) else none

/-- Has an array, of which an element's address is asked, the type's number of elements. -/
noncomputable def arrOk (s : St) (t : TypeId) : V → Bool
  | .pt id _ => match get s.T id with
    | some (.arr _ n _ _) => (match arE G t with
      | some (m, _) => Nat.beq n m
      | none => false)
    | _ => false
  | _ => true
/-- An operation: its value, and what becomes of the state. -/
noncomputable def opK (o : Oper) (s : St) (K : V → St → Option ρ) : Option ρ :=
  let d := o.dst.getD 999
  match o.op with
  | .move x | .assign x => match ev s x with
    | some v => K v s
    | none => none
  | .nilCheck x => match ev s x with
    | some (.pt id off) => K (.pt id off) s
    | some (.oa id i off) => K (.oa id i off) s
    | _ => none
  | .pick c x y => match evC s c with
    | some (.bool b) => match ev s x, ev s y, b with
      | some (.c (.bool p)), some (.c (.bool q)), b => K (.c (.bool (if b then p else q))) s
      | some v, _, true => K v s
      | _, some v, false => K v s
      | _, _, _ => none
    | _ => none
  | .binOp op t x y _ => match ev s x with
    | some v => match ev s y with
      | some v' => binV (isBoolT G t) (feqN G t) (aeqN G t) op v v' fun c => K (.c c) s
      | none => none
    | none => none
  | .unOp op _ x => match evC s x with
    | some (.bool b) => match op with
      | .not => K (.c (.bool (!b))) s
      | _ => none
    | some (.int k n) => match op with
      | .neg => K (.c (.int k (k.wrap (0 - n)))) s
      | .xor => K (.c (.int k (bits .xor k (if k.signed then -1 else k.max) n))) s
      | _ => none
    | _ => none
  | .convert src dst x => bif (tiOf G src).ty.isNone then none else match evC s x with
    | some (.int _ n) => match plainTy G dst with
      | some (.int k) => K (.c (.int k (k.wrap n))) s
      | _ => none
    | some (.str xs) => match plainTy G dst with
      | some .str => K (.c (.str xs)) s
      | some (.sl (.int .u8)) => bif isBytes G dst && isStrT G src then K (.c (.sl false (.int .u8) (xs.map fun b => (b.toNat : Int)))) s else none
      | _ => none
    | some (.own id) => bif !isBytes G src then none else match plainTy G dst with
      | some .str => match cont s.T (.int .u8) (.own id) with
        | some xs => K (.c (.str (xs.map fun n => UInt8.ofNat n.toNat))) s
        | none => none
      | some (.sl (.int .u8)) => bif Nat.beq src dst && isBytes G dst then (match get s.T id with
        | some (.row _ al t (x :: xs)) => match freeze id s with
          | some s' => K (.c (.sl al t (x :: xs))) s'
          | none => none
        | _ => none) else none
      | _ => none
    | some c => bif !isBytes G src then none else match plainTy G dst with
      | some .str => match cont s.T (.int .u8) c with
        | some xs => K (.c (.str (xs.map fun n => UInt8.ofNat n.toNat))) s
        | none => none
      | _ => none
    | none => none
  | .slice t x lo hi none => match ev s x with
    | some v => match evO s lo with
      | some l => match evO s hi with
        | some h => bif isStrT G t == (match v with | .c (.str _) => true | _ => false) then cutV s.T (eszS G t) v l h (fun c => K (.c c) s) else none
        | none => none
      | none => none
    | none => none
  | .slice t x none (some hi) (some mx) => match ev s x with
    | some (.c (.own id)) => match lenO s.T (eszS G t) id with
      | some n => match evI s hi with
        | some h => match evI s mx with
          | some m => if 0 ≤ h ∧ h ≤ m ∧ m ≤ n then K (.cap id h.toNat) s else none
          | none => none
        | none => none
      | none => none
    | _ => none
  | .range t x => bif !isStrT G t then none else match evC s x with
    | some (.str xs) => match newO d (.iter xs 0) s with
      | some s' => K (.pt d 0) s'
      | none => none
    | _ => none
  | .next x true => match ev s x with
    | some (.pt id 0) => match get s.T id with
      | some (.iter xs p) => if p < xs.length then K (.tup [(false, [.bool true]), (false, [.int .i64 (p : Int)]), (false, [.int .i32 ((dec xs p).1 : Int)])]) (setO id (.iter xs (p + (dec xs p).2)) s)
        else K (.tup [(false, [.bool false])]) s
      | _ => none
    | _ => none
  | .indexAddr t x i => match ev s x with
    | some v => match evI s i with
      | some n => bif arrOk G s t v then (idxAddr s.T (match v with | .pt _ _ => eszA G t | _ => eszS G t) v n fun a => K a s) else none
      | none => none
    | none => none
  | .index t x i => match evC s x with
    | some (.str xs) => match evI s i with
      | some n => bif !isStrT G t then none else if 0 ≤ n ∧ n < (xs.length : Int) then K (.c (.int .u8 ((xs.getD n.toNat 0).toNat : Int))) s else none
      | none => none
    | _ => none
  | .fieldAddr t x f => bif (tiOf G t).ty.isNone then none else match (tiOf G t).fields[f]? with
    | some (o, _, _) => match ev s x with
      | some (.pt id off) => K (.pt id (off + o)) s
      | some (.oa id i off) => K (.oa id i (off + o)) s
      | some (.ra cs) => K (.ra (cs.drop o)) s
      | _ => none
    | none => none
  | .field t x f => bif (tiOf G t).ty.isNone then none else match (tiOf G t).fields[f]? with
    | some (o, n, g) => match ev s x with
      | some (.agg cs) => match mkV g ((cs.drop o).take n) with
        | some v => K v s
        | none => none
      | _ => none
    | none => none
  | .extract x i => match ev s x with
    | some (.tup vs) => match vs[i]? with
      | some (g, cs) => match mkV g cs with
        | some v => K v s
        | none => none
      | none => none
    | _ => none
  | .load t x => match (tiOf G t).ty with
    | some ty => match ev s x with
      | some (.pt id 0) => match get s.T id, ty with
        | some (.arr _ n u xs), .arr m u' => bif Nat.beq n m && decide (u = u') && (tiOf G t).agg then K (.av n u xs) s else none
        | _, _ => match cellsAt s.T (.pt id 0) ty.size with
          | some cs => match mkV (tiOf G t).agg cs with
            | some v => K v s
            | none => none
          | none => none
      | some v => match cellsAt s.T v ty.size with
        | some cs => match mkV (tiOf G t).agg cs with
          | some v => K v s
          | none => none
        | none => none
      | none => none
    | none => none
  | .store t x y => match (tiOf G t).ty with
    | some ty => match ev s x with
      | some ad => match ev s y with
        | some (.av n u xs) => match ad with
          | .pt id 0 => match get s.T id with
            | some (.arr tt m u' _) => bif Nat.beq n m && decide (u = u') && Nat.beq ty.size (n * u.size) && !u.hasSl then K .undef (setO id (.arr tt n u xs) s) else none
            | _ => none
          | _ => none
        | some v => match cellsOf v with
          | some cs => bif Nat.beq cs.length ty.size then (match ad with
            | .oa _ _ _ => match freezeAll (idsOf cs) s with
              | some s1 => match ev s1 y with
                | some v1 => match cellsOf v1 with
                  | some cs1 => match ev s1 x with
                    | some ad1 => match (bif Nat.beq cs1.length ty.size then storeAt s1 ad1 cs1 else none) with
                      | some s2 => K .undef s2
                      | none => none
                    | none => none
                  | none => none
                | none => none
              | none => none
            | _ => match storeAt s ad cs with
              | some s2 => K .undef s2
              | none => none) else none
          | none => none
        | none => none
      | none => none
    | none => none
  | .alloc t => match (tiOf G t).ty with
    | some (.arr n u) => bif u.hasSl then none else (match newO d (.arr t n u (List.replicate n u.zero)) s with
      | some s' => K (.pt d 0) s'
      | none => none)
    | some ty => match newO d (.box t (zeroC ty)) s with
      | some s' => K (.pt d 0) s'
      | none => none
    | none => none
  | .box t x => match (tiOf G t).ty with
    | some ty => match ev s x with
      | some (.av n u xs) => match newO d (.arr t n u xs) s with
        | some s' => K (.pt d 0) s'
        | none => none
      | some v => match cellsOf v with
        | some cs => bif Nat.beq cs.length ty.size then (match newO d (.box t cs) s with
          | some s' => K (.pt d 0) s'
          | none => none) else none
        | none => none
      | none => none
    | none => none
  | .build t parts => match (tiOf G t).ty with
    | some (.arr n u) => bif u.hasSl || !parts.isEmpty || !(tiOf G t).agg then none else K (.av n u (List.replicate n u.zero)) s
    | some ty => bif !(tiOf G t).agg then none else match buildC s (tiOf G t).fields (zeroC ty) parts.toList with
      | some cs => K (.agg cs) s
      | none => none
    | none => none
  | .buildSlice t len parts => match slE G t with
      | some (e, u) => bif Nat.beq parts.size len && idxs 0 parts.toList && Nat.ble (len * u.size) 16777216 && Nat.ble len 16777216 then (match evAll s (parts.toList.map (·.2)) with
        | some vs => match cellss vs with
          | some css => match freezeAll (idsOf css.flatten) s with
            | some s1 => match unflatL s.T u css with
              | some xs => match newO d (.row e (u.hasSl && alOfs s.T css) u xs) s1 with
                | some s2 => K (.c (.own d)) s2
                | none => none
              | none => none
            | none => none
          | none => none
        | none => none) else none
      | none => none
  | .makeSlice t l c => match slE G t with
      | some (e, u) => match evI s l with
        | some n => match evI s c with
          | some m => bif Nat.beq (tiOf G e).bytes 0 then none else if 0 ≤ n ∧ n ≤ m ∧ m * ((tiOf G e).bytes : Int) ≤ 281474976710656 then (match newO d (.row e false u (List.replicate n.toNat u.zero)) s with
            | some s' => K (.c (.own d)) s'
            | none => none) else none
          | none => none
        | none => none
      | none => none
  | .call c => match c.callee with
    | .builtin b => match evAll s c.args.toList with
      | some vs => builtinK G s d b c.argTypes.toList vs K
      | none => none
    | .value (.func f) => match get G.calls f with
      | some F => match evAll s c.args.toList with
        | some vs => callK F s d vs K
        | none => none
      | none => none
    | _ => none
  | _ => none
where
  buildC (s : St) (fields : List (Nat × Nat × Bool)) : List C → List (Nat × Operand) → Option (List C)
    | cs, [] => some cs
    | cs, (i, x) :: r => match fields[i]? with
      | some (o, n, _) => match ev s x with
        | some v => match cellsOf v with
          | some new => bif Nat.beq new.length n then (match spliceC cs o new with
            | some cs' => buildC s fields cs' r
            | none => none) else none
          | none => none
        | none => none
      | none => none
end

/-! ## Regions -/
noncomputable def literalB (s : St) (o : Oper) (b : Bool) : St := match o.dst with
  | some d => ⟨put s.env d (.c (.bool b)), s.T⟩
  | none => s
noncomputable def putV (n : Nat) (s : St) (dst : Option Nat) (v : V) : St := match dst with
  | some d => bif Nat.blt d n then ⟨put s.env d v, s.T⟩ else s
  | none => s

section
variable {ρ : Type} (G : Ctx)
/-- The operations of a region, one behind the other. -/
noncomputable def aOps (all : Array Oper) : List Oper → St → (St → Option ρ) → Option ρ
  | [], s, K => K s
  | o :: r, s, K => match o.guard with
    | none => opK G o s fun v s' => aOps all r (putV G.n s' o.dst v) K
    | some (j, want) => match all[j]? with
      | some oj => match oj.dst with
        | some dj => match getT s.env dj with
          | some (.c (.bool b)) =>
            if b then (bif want then opK G o (literalB s oj true) fun v s' => aOps all r (putV G.n s' o.dst v) K else aOps all r (putV G.n (literalB s oj true) o.dst .skip) K)
            else (bif want then aOps all r (putV G.n (literalB s oj false) o.dst .skip) K else opK G o (literalB s oj false) fun v s' => aOps all r (putV G.n s' o.dst v) K)
          | some .skip => aOps all r (putV G.n s o.dst .skip) K
          | _ => none
        | none => none
      | none => none
end

/-! ## Regions that draw their order -/
/-- The objects that a value names. -/
noncomputable def idsTup : List (Bool × List C) → List Nat
  | [] => []
  | (_, cs) :: r => idsOf cs ++ idsTup r
noncomputable def vIds : V → List Nat
  | .c x => idsOf [x]
  | .agg cs => idsOf cs
  | .tup vs => idsTup vs
  | .ra cs => idsOf cs
  | .oa id _ _ => [id]
  | .pt id _ => [id]
  | .cap id _ => [id]
  | _ => []
noncomputable def opIds (s : St) : List Operand → List Nat
  | [] => []
  | x :: r => match ev s x with
    | some v => vIds v ++ opIds s r
    | none => opIds s r
/-- The objects that an operation reads. -/
noncomputable def rdOf (s : St) (o : Oper) : List Nat := match o.op with
  | .move _ => []
  | .assign _ => []
  | _ => opIds s o.op.operands.toList
/-- Operations that leave the rows as they are. -/
noncomputable def pureOp (o : Oper) : Bool := match o.op with
  | .move _ => true
  | .assign _ => true
  | .nilCheck _ => true
  | .pick _ _ _ => true
  | .binOp _ _ _ _ _ => true
  | .unOp _ _ _ => true
  | .convert src dst _ => !Nat.beq src dst
  | .slice _ _ _ _ none => true
  | .indexAddr _ _ _ => true
  | .index _ _ _ => true
  | .fieldAddr _ _ _ => true
  | .field _ _ _ => true
  | .extract _ _ => true
  | .load _ _ => true
  | .build _ _ => true
  | .call c => match c.callee with
    | .builtin .len => true
    | .builtin .min => true
    | .builtin .max => true
    | _ => false
  | _ => false
noncomputable def newL (al : Bool) (b : Nat) : Tab → Tab
  | [] => []
  | (i, x) :: r => (b + i, fixO al [] b x) :: newL al b r
section
variable {ρ : Type} (G : Ctx)
noncomputable def fxCall (F : Fn) (s : St) (d : Nat) (vs : List V) (K : V → Tab → Option ρ) : Option ρ :=
  bif Nat.ble vs.length 1000 && Nat.beq vs.length (cntB F.din.slots) && F.din.objs.isEmpty && (!hasAl F.dout || (idsOf (argCells vs)).isEmpty) && closed F.din then (match readE s.T [] (argE 0 vs) with
    | none => none
    | some e => match pack F.din ⟨e, []⟩ with
      | none => none
      | some x => (F.run x).bind fun r => match addObjs (alOf s.T (argCells vs)) [] (1000 * (d + 1)) (unpack F.dout r).T s with
          | none => none
          | some _ => match resE (alOf s.T (argCells vs)) [] (1000 * (d + 1)) (unpack F.dout r).env with
            | some v => K v (newL (alOf s.T (argCells vs)) (1000 * (d + 1)) (unpack F.dout r).T)
            | none => none) else none
/-- An operation whose effect is a value and some objects that are new or written. -/
noncomputable def fxK (o : Oper) (s : St) (K : V → Tab → Option ρ) : Option ρ :=
  let d := o.dst.getD 999
  bif pureOp o then opK G o s (fun v _ => K v []) else match o.op with
  | .alloc _ => opK G o s fun v s' => match get s'.T d with
    | some ob => K v [(d, ob)]
    | none => none
  | .box _ _ => opK G o s fun v s' => match get s'.T d with
    | some ob => K v [(d, ob)]
    | none => none
  | .makeSlice _ _ _ => opK G o s fun v s' => match get s'.T d with
    | some ob => K v [(d, ob)]
    | none => none
  | .buildSlice _ _ _ => bif (opIds s o.op.operands.toList).isEmpty then (opK G o s fun v s' => match get s'.T d with
    | some ob => K v [(d, ob)]
    | none => none) else none
  | .store _ x y => match ev s x with
    | some (.pt id _) => opK G o s fun v s' => match get s'.T id with
      | some ob => K v [(id, ob)]
      | none => none
    | some (.oa id _ _) => bif (opIds s [y]).isEmpty then (opK G o s fun v s' => match get s'.T id with
      | some ob => K v [(id, ob)]
      | none => none) else none
    | _ => none
  | .call c => match c.callee with
    | .value (.func f) => match get G.calls f with
      | some F => match evAll s c.args.toList with
        | some vs => fxCall F s d vs K
        | none => none
      | none => none
    | _ => none
  | _ => none
/-! ### Which operations stand before which -/
noncomputable def grAny : Ground → Bool
  | .textOnly _ => false
  | .gcOnly _ => false
  | _ => true
noncomputable def grTxt : Ground → Bool
  | .gcOnly _ => false
  | _ => true
noncomputable def grGc : Ground → Bool
  | .textOnly _ => false
  | _ => true
/-- A set of numbers as one number. -/
noncomputable def inM (m i : Nat) : Bool := Nat.beq (Nat.land (Nat.shiftRight m i) 1) 1
noncomputable def edM (p : Ground → Bool) : List Edge → Nat
  | [] => 0
  | e :: r => bif p e.ground then Nat.lor (Nat.shiftLeft 1 e.on) (edM p r) else edM p r
/-- All that stand before, by edges that bind in every mode. -/
noncomputable def cloOf (ms : List Nat) : List Edge → Nat
  | [] => 0
  | e :: r => bif grAny e.ground then Nat.lor (Nat.lor (Nat.shiftLeft 1 e.on) (ms.getD e.on 0)) (cloOf ms r) else cloOf ms r
noncomputable def clos : List Oper → List Nat → List Nat
  | [], ms => ms
  | o :: r, ms => clos r (ms ++ [cloOf ms o.after.toList])
noncomputable def meets : List Nat → List Nat → Bool
  | [], _ => false
  | i :: r, l => has l i || meets r l
/-- What has been read and written so far: number, read, written. -/
abbrev Log := List (Nat × List Nat × List Nat)
noncomputable def logOk (clo : Nat) (rd wr : List Nat) : Log → Bool
  | [] => true
  | (j, rd', wr') :: r => (inM clo j || !(meets wr' rd || meets wr' wr || meets rd' wr)) && logOk clo rd wr r
noncomputable def allIn (T : Tab) : List Nat → Bool
  | [] => true
  | i :: r => (get T i).isSome && allIn T r
noncomputable def keys {α : Type} : List (Nat × α) → List Nat
  | [] => []
  | (i, _) :: r => i :: keys r
noncomputable def apply (upd T : Tab) : Tab := upd ++ T
/-- One operation of those in free order. -/
noncomputable def fxStep (clo i : Nat) (log : Log) (o : Oper) (s : St) (K : Log → St → Option ρ) : Option ρ :=
  fxK G o s fun v upd => bif allIn s.T (rdOf s o) && logOk clo (rdOf s o) (keys upd) log
    then K ((i, rdOf s o, keys upd) :: log) (putV G.n ⟨s.env, apply upd s.T⟩ o.dst v) else none
noncomputable def aOpsD (all : Array Oper) (ms : List Nat) (m : Nat) : Nat → Log → List Oper → St → (St → Option ρ) → Option ρ
  | _, _, [], s, K => K s
  | i, log, o :: r, s, K => bif Nat.blt i m then (match o.guard with
    | none => fxStep G (ms.getD i 0) i log o s fun log' s' => aOpsD all ms m (i + 1) log' r s' K
    | some (j, want) => match all[j]? with
      | some oj => match oj.dst with
        | some dj => match getT s.env dj with
          | some (.c (.bool b)) =>
            if b then (bif want then fxStep G (ms.getD i 0) i log o (literalB s oj true) fun log' s' => aOpsD all ms m (i + 1) log' r s' K else aOpsD all ms m (i + 1) log r (putV G.n (literalB s oj true) o.dst .skip) K)
            else (bif want then aOpsD all ms m (i + 1) log r (putV G.n (literalB s oj false) o.dst .skip) K else fxStep G (ms.getD i 0) i log o (literalB s oj false) fun log' s' => aOpsD all ms m (i + 1) log' r s' K)
          | some .skip => aOpsD all ms m (i + 1) log r (putV G.n s o.dst .skip) K
          | _ => none
        | none => none
      | none => none) else aOps G all (o :: r) s K
end

/-! ## Seams -/
/-! ## Code -/
/-- What a loop, or the rest behind a seam, comes to. -/
structure Seam (ρ : Type) where
  d : Desc
  e : Option Desc     -- where the ways meet: the shape behind the rest
  J : d.X → (Option Nat → St → Option ρ) → Option ρ
/-- The way on behind the rest that follows where ways have met. -/
noncomputable def seamK {ρ : Type} (e : Option Desc) (k : Option Nat → St → Option ρ) : Option Nat → St → Option ρ
  | none, s => match e with
    | some d => match enter d s with
      | some z => k none (unpack d z)
      | none => none
    | none => none
  | some i, s => k (some i) s
structure Seams (ρ : Type) where
  loops : List (Nat × Seam ρ)
  joins : List (Nat × Seam ρ)
  exits : List (Nat × Desc)
  pre : List (Nat × List Nat)     -- regions that draw their order: the slots of which the rows are only read from there on

noncomputable def slotIds (e : Env) : List Nat → List Nat
  | [] => []
  | t :: r => (match get e t with
    | some v => vIds v
    | none => []) ++ slotIds e r
noncomputable def preS (p : List (Nat × List Nat)) (id : Nat) (s : St) : Option St := match get p id with
  | none => some s
  | some l => freezeAll (slotIds s.env l) s
noncomputable def firstId : Code → Nat
  | .region id _ _ => id
  | .seq x _ => firstId x
  | .block _ c => firstId c
  | .loop c => firstId c + 100000
  | .cond _ x _ => firstId x + 10000000
  | .scope c => firstId c
  | _ => 999999

section
variable {ρ : Type} (G : Ctx) (L : Seams ρ) (calm : Array Oper → Option (List Nat × Nat)) (ret : St → Option ρ)

noncomputable def aExec : Code → St → (Option Nat → St → Option ρ) → Option ρ
  | .skip, s, k => k none s
  | .label _, s, k => k none s
  | .region id ops draw, s, k => bif draw then (match preS L.pre id s with
    | some s => match calm ops with
      | some (ms, m) => aOpsD G ops ms m 0 [] ops.toList s fun s' => k none s'
      | none => none
    | none => none) else aOps G ops ops.toList s fun s' => k none s'
  | .seq x y, s, k => aExec x s fun e s1 => match e with
    | none => match get L.joins (firstId y) with
      | none => aExec y s1 k
      | some j => match enter j.d s1 with
        | some z => j.J z k
        | none => none
    | some i => k (some i) s1
  | .cond c x y, s, k => match evC s c with
    | some (.bool b) => if b then aExec x s k else aExec y s k
    | _ => none
  | .block id c, s, k => aExec c s fun e s1 => match e with
    | none => k none s1
    | some i => bif Nat.beq i id then k none s1 else k (some i) s1
  | .loop c, s, k => match get L.loops (firstId c) with
    | some j => match enter j.d s with
      | some z => j.J z k
      | none => none
    | none => none
  | .exit id, s, k => match get L.exits id with
    | none => k (some id) s
    | some d => match enter d s with
      | some z => k (some id) (unpack d z)
      | none => none
  | .ret, s, _ => ret s
  | _, _, _ => none

noncomputable def loopN (d : Desc) (B : St → (Option Nat → St → Option ρ) → Option ρ) : Nat → d.X → (Option Nat → St → Option ρ) → Option ρ
  | 0, _, _ => none
  | n + 1, x, k => B (unpack d x) fun e s => match e with
    | none => match enter d s with
      | some x' => loopN d B n x' k
      | none => none
    | some i => k (some i) s
end

/-! ## A function -/
/-- What a variable in memory holds. -/
noncomputable def loadV (T : Tab) (g : Bool) (t : Ty) (v : V) : Option V := match v with
  | .pt id 0 => match get T id, t with
    | some (.arr _ n u xs), .arr m u' => bif Nat.beq n m && decide (u = u') && g then some (.av n u xs) else none
    | _, _ => match cellsAt T v t.size with
      | some cs => mkV g cs
      | none => none
  | _ => match cellsAt T v t.size with
    | some cs => mkV g cs
    | none => none
noncomputable def resVals (s : St) : List (ResultVar × Bool × Ty) → Option (List V)
  | [] => some []
  | (.tmp i, _, _) :: r => match getT s.env i with
    | some v => match resVals s r with
      | some vs => some (v :: vs)
      | none => none
    | none => none
  | (.cell a _, g, t) :: r => match getT s.env a with
    | some v => match loadV s.T g t v with
      | some u => match resVals s r with
        | some vs => some (u :: vs)
        | none => none
      | none => none
    | none => none
noncomputable def ghostE : Env → Env
  | [] => []
  | (i, v) :: r => bif Nat.blt i 1000000 then ghostE r else (i, v) :: ghostE r
noncomputable def retK (rs : List ResultVar) (outs : List (Bool × Ty)) (d : Desc) (s : St) : Option d.X :=
  match resVals s (rs.zip outs) with
  | some vs => enter d ⟨argE 0 vs ++ ghostE s.env, s.T⟩
  | none => none
/-- A function's body. -/
noncomputable def aBody (G : Ctx) (calm : Array Oper → Option (List Nat × Nat)) (fn : Func) (F : Fn) (L : Seams F.dout.X) (a : F.din.X) : Option F.dout.X :=
  match fn.body with
  | some c => aExec G L calm (retK fn.results.toList F.outs F.dout) c (unpack F.din a) fun e s => match e with
    | none => retK fn.results.toList F.outs F.dout s
    | some _ => none
  | none => none


/-- The body of a loop, the rest behind a seam: by number. -/
noncomputable def loopAt (key : Nat) : Code → Option Code
  | .seq x y => match loopAt key x with | some c => some c | none => loopAt key y
  | .cond _ x y => match loopAt key x with | some c => some c | none => loopAt key y
  | .block _ c => loopAt key c
  | .loop c => bif Nat.beq (firstId c) key then some c else loopAt key c
  | _ => none
noncomputable def restAt (key : Nat) : Code → Option Code
  | .seq x y => bif Nat.beq (firstId y) key then some y else match restAt key x with | some c => some c | none => restAt key y
  | .cond _ x y => match restAt key x with | some c => some c | none => restAt key y
  | .block _ c => restAt key c
  | .loop c => restAt key c
  | _ => none

end Go.Proofs.YtkadllkeekoopaaGreat.Abs
end

section
namespace Go.Proofs.YtkadllkeekoopaaGreat.Abs
open Go.RowKit

/-! ## How abstract values lie in memory -/
/-- A row of elements, each of size cells. -/
def RowF {α : Type} (w : World) (F : Nat → Prop) (K : α → List Value → Prop) (size : Nat) (A : Option Addr) (xs : List α) : Prop :=
  xs = [] ∨ ∃ ad, A = some ad ∧ ad.spot = none ∧ F ad.block ∧ ∀ i x, xs[i]? = some x → ∃ cs, cs.length = size ∧ K x cs ∧ ∀ j u, cs[j]? = some u → w.cell? ⟨ad.block, ad.off + (i * size + j), none⟩ = some u

/-- Cells that read as a value of type t; what it leads to lies in blocks of F. -/
def KF (w : World) (F : Nat → Prop) : (t : Ty) → t.den → List Value → Prop
  | .int k, x, cs => cs = [.int k x]
  | .bool, x, cs => cs = [.bool x]
  | .str, x, cs => ∃ s : ByteArray, cs = [.string s] ∧ s.data.toList = x
  | .unit, _, cs => cs = []
  | .sl t, xs, cs => ∃ A c, cs = [.slice A xs.length c] ∧ xs.length ≤ c ∧ RowF w F (KF w F t) t.size A xs
  | .arr n t, xs, cs => xs.length = n ∧ cs.length = n * t.size ∧ ∀ (i : Nat) x, xs[i]? = some x → KF w F t x ((cs.drop (i * t.size)).take t.size)
  | .pair a b, x, cs => ∃ c0 c1, cs = c0 ++ c1 ∧ KF w F a x.1 c0 ∧ KF w F b x.2 c1

theorem RowF.imp {α : Type} {w w' : World} {F F' : Nat → Prop} {K K' : α → List Value → Prop} {size : Nat} {A : Option Addr} {xs : List α}
    (hF : ∀ b, F b → F' b ∧ w'.heap[b]? = w.heap[b]?) (hK : ∀ x cs, K x cs → K' x cs) (h : RowF w F K size A xs) : RowF w' F' K' size A xs := by
  rcases h with h | ⟨ad, hA, hs, hb, hx⟩
  · exact .inl h
  · refine .inr ⟨ad, hA, hs, (hF _ hb).1, fun i x hi => ?_⟩
    obtain ⟨cs, hl, hk, hc⟩ := hx i x hi
    refine ⟨cs, hl, hK _ _ hk, fun j u hj => ?_⟩
    have := hc j u hj
    simp only [World.cell?] at this ⊢
    rw [(hF _ hb).2]
    exact this

theorem KF.imp {w w' : World} {F F' : Nat → Prop} (hF : ∀ b, F b → F' b ∧ w'.heap[b]? = w.heap[b]?) : ∀ (t : Ty) (x : t.den) (cs : List Value), KF w F t x cs → KF w' F' t x cs
  | .int _, _, _, h => h
  | .bool, _, _, h => h
  | .str, _, _, h => h
  | .unit, _, _, h => h
  | .sl t, _, _, ⟨A, c, h, hl, hr⟩ => ⟨A, c, h, hl, hr.imp hF (fun x cs => KF.imp hF t x cs)⟩
  | .arr _ t, _, _, ⟨h1, h2, h3⟩ => ⟨h1, h2, fun i x hi => KF.imp hF t x _ (h3 i x hi)⟩
  | .pair a b, _, _, ⟨c0, c1, h, h0, h1⟩ => ⟨c0, c1, h, KF.imp hF a _ _ h0, KF.imp hF b _ _ h1⟩

theorem KF.len {w : World} {F : Nat → Prop} : ∀ (t : Ty) (x : t.den) (cs : List Value), KF w F t x cs → cs.length = t.size
  | .int _, _, _, h => by rw [show _ = [_] from h]; rfl
  | .bool, _, _, h => by rw [show _ = [_] from h]; rfl
  | .str, _, _, ⟨s, h, _⟩ => by rw [h]; rfl
  | .unit, _, _, h => by rw [show _ = [] from h]; rfl
  | .sl t, _, _, ⟨A, c, h, _⟩ => by rw [h]; rfl
  | .arr n t, _, _, ⟨_, h2, _⟩ => h2
  | .pair a b, _, _, ⟨c0, c1, h, h0, h1⟩ => by rw [h, List.length_append, KF.len a _ _ h0, KF.len b _ _ h1]; rfl

/-- The block that a row's or a variable's value leads to. -/
def blk : Value → Option Nat
  | .slice (some a) _ _ => some a.block
  | .pointer (some a) => some a.block
  | _ => none
def addr : Value → Option Addr
  | .slice (some a) _ _ => some a
  | .pointer (some a) => some a
  | _ => none
noncomputable def osize : Obj → Nat
  | .row _ _ t _ => t.size
  | .win _ t _ => t.size
  | .box _ _ => 1
  | .arr _ _ t _ => t.size
  | .iter _ _ => 1

/-- How many elements an object has, and how many cells an element. -/
noncomputable def okind : Obj → Nat × Nat
  | .row _ _ t xs => (t.size, xs.length)
  | .win _ t xs => (t.size, xs.length)
  | .box _ _ => (1, 0)
  | .arr _ n t _ => (t.size, n)
  | .iter _ _ => (1, 0)
theorem okind_size {o o' : Obj} (h : okind o' = okind o) : osize o' = osize o := by
  have := congrArg Prod.fst h
  cases o <;> cases o' <;> exact this

/-- A frame: what it began with. -/
structure Fr where
  P : Program
  w0 : World
  FA : Nat → Prop          -- the blocks that what came in lies in
  MB : Nat → Prop          -- the blocks that were handed over
  new : Nat → Prop         -- the blocks that it may own
  n : Nat                  -- how many slots
  gh : Nat → Value         -- the ghosts
/-- What is not the call's is as it was. -/
structure Kept (fr : Fr) (w : World) : Prop where
  os : w.os = fr.w0.os
  tape : w.tape = fr.w0.tape
  output : w.output = fr.w0.output
  size : fr.w0.heap.size ≤ w.heap.size
  block : ∀ k, k < fr.w0.heap.size → ¬ fr.MB k → w.heap[k]? = fr.w0.heap[k]?
  fresh : ∀ k, w.heap.size ≤ k → fr.new k
  nmb : ∀ k, fr.new k → fr.w0.heap.size ≤ k ∨ fr.MB k
theorem Kept.up {fr : Fr} {w w' : World} (h : Kept fr w) (hb : Below w.heap.size w w') : Kept fr w' :=
  ⟨hb.os.trans h.os, hb.tape.trans h.tape, hb.output.trans h.output, Nat.le_trans h.size hb.size, fun k hk hm => (hb.block k (Nat.lt_of_lt_of_le hk h.size)).trans (h.block k hk hm), fun k hk => h.fresh k (Nat.le_trans hb.size hk), h.nmb⟩
theorem Kept.grown {fr : Fr} {w w' : World} {row : Option Nat} (h : Kept fr w) (hg : w.grownBy w' row) (hr : ∀ k, row = some k → fr.new k) : Kept fr w' :=
  ⟨hg.os.trans h.os, hg.tape.trans h.tape, hg.output.trans h.output, Nat.le_trans h.size hg.size, fun k hk hm => (hg.block k (Nat.lt_of_lt_of_le hk h.size) (fun e => (h.nmb k (hr k e.symm)).elim (fun h => absurd hk (by omega)) hm)).trans (h.block k hk hm), fun k hk => h.fresh k (Nat.le_trans hg.size hk), h.nmb⟩
/-- What a slot, or a ghost, holds. -/
def Fr.val (fr : Fr) (a : Act) (i : Nat) : Value := if i < 1000000 then a.tmps.getD i Go.undef else fr.gh i

section
variable (fr : Fr) (σ : Nat → Value) (T : Tab) (w : World)
/-- The blocks of the call's own rows and variables. -/
def Own (b : Nat) : Prop := ∃ id o, get T id = some o ∧ blk (σ id) = some b
/-- The blocks that read values may lie in. -/
def Foot (al : Bool) (b : Nat) : Prop := b < w.heap.size ∧ ¬ Own σ T b ∧ (fr.new b ∨ (al = true ∧ fr.FA b))

def CR : C → Value → Prop
  | .int k n, v => v = .int k n
  | .bool b, v => v = .bool b
  | .str s, v => ∃ bs : ByteArray, v = .string bs ∧ bs.data.toList = s
  | .sl al t xs, v => KF w (Foot fr σ T w al) (.sl t) xs [v]
  | .nil, v => v = .slice none 0 0
  | .own id, v => v = σ id ∧ ∃ o, get T id = some o
  | .view id lo len, v => ∃ o A n cap A' c', get T id = some o ∧ σ id = .slice A n cap ∧ lo + len ≤ n ∧ v = .slice A' len c' ∧ len ≤ c' ∧ (lo = 0 → A' = A ∧ c' = cap) ∧ (0 < len → ∃ ad, A = some ad ∧ A' = some (ad.add (lo * osize o)))
  | .undef, v => v.oneCell' = true
def CRs : List C → List Value → Prop
  | [], [] => True
  | c :: cs, v :: vs => CR fr σ T w c v ∧ CRs cs vs
  | _, _ => False
/-- A part of a value: a struct, or one cell. -/
def PR (g : Bool) (cs : List C) (u : Value) : Prop := match g with
  | true => ∃ arr, u = .agg arr ∧ CRs fr σ T w cs arr.toList
  | false => ∃ c, cs = [c] ∧ CR fr σ T w c u
def PRs : List (Bool × List C) → List Value → Prop
  | [], [] => True
  | (g, cs) :: r, u :: us => PR fr σ T w g cs u ∧ PRs r us
  | _, _ => False
def VR : V → Value → Prop
  | .c x, v => CR fr σ T w x v
  | .agg cs, v => ∃ arr, v = .agg arr ∧ CRs fr σ T w cs arr.toList
  | .tup vs, v => ∃ arr, v = .tuple arr ∧ PRs fr σ T w vs arr.toList
  | .av n t xs, v => ∃ arr, v = .agg arr ∧ KF w (fun _ => False) (.arr n t) xs arr.toList
  | .ra cs, v => ∃ ad al, v = .pointer (some ad) ∧ ad.spot = none ∧ (cs = [] ∨ Foot fr σ T w al ad.block) ∧ ∀ j c, cs[j]? = some c → ∃ u, w.cell? ⟨ad.block, ad.off + j, none⟩ = some u ∧ CR fr σ T w c u
  | .oa id i off, v => ∃ o a0, get T id = some o ∧ i < (okind o).2 ∧ addr (σ id) = some a0 ∧ a0.spot = none ∧ v = .pointer (some ⟨a0.block, a0.off + (i * osize o + off), none⟩)
  | .pt id off, v => ∃ o a0, get T id = some o ∧ addr (σ id) = some a0 ∧ a0.spot = none ∧ v = .pointer (some ⟨a0.block, a0.off + off, none⟩)
  | .cap id k, v => ∃ o A n c c', get T id = some o ∧ σ id = .slice A n c ∧ k ≤ n ∧ v = .slice A k c' ∧ k ≤ c' ∧ c' ≤ c
  | .skip, v => v = Go.undef
  | .undef, _ => True

def OR (id : Nat) : Obj → Prop
  | .row e al t xs => ∃ inner, w.ownsRow 0 e t.size (σ id) xs.length inner ∧ (∀ b, blk (σ id) = some b → fr.new b) ∧ ∀ (i : Nat) x, xs[i]? = some x → KF w (Foot fr σ T w al) t x ((inner.drop (i * t.size)).take t.size)
  | .win _ _ _ => False
  | .box ty cs => ∃ g arr, σ id = .pointer (some ⟨g, 0, none⟩) ∧ fr.new g ∧ w.heap[g]? = some (.cells arr ty (0, 0)) ∧ CRs fr σ T w cs arr.toList
  | .arr ty n t xs => ∃ g arr, σ id = .pointer (some ⟨g, 0, none⟩) ∧ fr.new g ∧ w.heap[g]? = some (.cells arr ty (0, 0)) ∧ KF w (fun _ => False) (.arr n t) xs arr.toList
  | .iter s p => ∃ g bs, σ id = .pointer (some ⟨g, 0, none⟩) ∧ fr.new g ∧ w.heap[g]? = some (.stringIter bs p) ∧ bs.data.toList = s
end

structure RelS (fr : Fr) (σ : Nat → Value) (s : St) (a : Act) (w : World) : Prop where
  kept : Kept fr w
  fa : ∀ b, fr.FA b → b < fr.w0.heap.size
  dist : ∀ id o id' o', get s.T id = some o → get s.T id' = some o' → id ≠ id' → ∀ b, blk (σ id) = some b → blk (σ id') ≠ some b
  objs : ∀ id o, get s.T id = some o → OR fr σ s.T w id o
  env : ∀ i v, get s.env i = some v → VR fr σ s.T w v (fr.val a i)
  tmps : a.tmps.size = fr.n
  small : fr.n ≤ 1000000
  defers : a.defers = []

theorem OR.lt {fr : Fr} {σ : Nat → Value} {T : Tab} {w : World} {id : Nat} {o : Obj} (h : OR fr σ T w id o) : ∀ b, blk (σ id) = some b → fr.new b ∧ b < w.heap.size := by
  intro b hb
  cases o with
  | row e al t xs =>
    obtain ⟨inner, ho, hn, _⟩ := h
    refine ⟨hn b hb, (ho.lt b ?_).2⟩
    revert hb
    rcases ho.2 with ⟨hv, _⟩ | ⟨g, cap, cur, hv, _⟩ <;> rw [hv] <;> simp [blk, Value.ownBlock]
  | win _ _ _ => exact h.elim
  | box ty cs =>
    obtain ⟨g, arr, hv, hg, hh, _⟩ := h
    rw [hv] at hb
    simp [blk] at hb
    subst hb
    exact ⟨hg, (Array.getElem?_eq_some_iff.1 hh).1⟩
  | arr ty n t xs =>
    obtain ⟨g, arr, hv, hg, hh, _⟩ := h
    rw [hv] at hb
    simp [blk] at hb
    subst hb
    exact ⟨hg, (Array.getElem?_eq_some_iff.1 hh).1⟩
  | iter xs p =>
    obtain ⟨g, bs, hv, hg, hh, _⟩ := h
    rw [hv] at hb
    simp [blk] at hb
    subst hb
    exact ⟨hg, (Array.getElem?_eq_some_iff.1 hh).1⟩

theorem CR.one {fr : Fr} {σ : Nat → Value} {s : St} {a : Act} {w : World} (R : RelS fr σ s a w) {c : C} {v : Value} (h : CR fr σ s.T w c v) : v.oneCell' = true := by
  cases c with
  | int k n => rw [show v = _ from h]; rfl
  | bool b => rw [show v = _ from h]; rfl
  | str s => obtain ⟨bs, rfl, _⟩ := h; rfl
  | sl al t xs =>
    obtain ⟨A, c, h, _⟩ := h
    simp at h
    rw [h]; rfl
  | nil => rw [show v = _ from h]; rfl
  | own id =>
    obtain ⟨rfl, o, ho⟩ := h
    have hr := R.objs id o ho
    cases o with
    | row e al t xs =>
      obtain ⟨inner, hw, _⟩ := hr
      rcases hw.2 with ⟨hv, _⟩ | ⟨g, cap, cur, hv, _⟩ <;> rw [hv] <;> rfl
    | win _ _ _ => exact hr.elim
    | box ty cs => obtain ⟨g, arr, hv, _⟩ := hr; rw [hv]; rfl
    | arr ty n t xs => obtain ⟨g, arr, hv, _⟩ := hr; rw [hv]; rfl
    | iter xs p => obtain ⟨g, bs, hv, _⟩ := hr; rw [hv]; rfl
  | view id lo len => obtain ⟨o, A, n, cap, A', c', _, _, _, rfl, _⟩ := h; rfl
  | undef => exact h

theorem RelS.envT {fr : Fr} {σ : Nat → Value} {s : St} {a : Act} {w : World} (R : RelS fr σ s a w) {i : Nat} {v : V} (h : getT s.env i = some v) : VR fr σ s.T w v (a.tmps.getD i Go.undef) := by
  unfold getT at h
  cases hb : Nat.blt i 1000000 with
  | false => rw [hb] at h; cases h
  | true =>
    rw [hb] at h
    have := R.env i v h
    unfold Fr.val at this
    rwa [if_pos (Nat.blt_eq.mp hb)] at this
theorem getT_get {e : Env} {i : Nat} {v : V} (h : getT e i = some v) : i < 1000000 ∧ get e i = some v := by
  unfold getT at h
  cases hb : Nat.blt i 1000000 with
  | false => rw [hb] at h; cases h
  | true => rw [hb] at h; exact ⟨Nat.blt_eq.mp hb, h⟩
theorem getT_of {e : Env} {i : Nat} (h : i < 1000000) : getT e i = get e i := by
  unfold getT
  rw [Nat.blt_eq.mpr h]
  rfl

/-! ## Lists by numbers -/
section
variable {α β : Type}
theorem get_cons (i : Nat) (x : α) (r : List (Nat × α)) (j : Nat) : get ((i, x) :: r) j = if i = j then some x else get r j := by
  rw [get]
  by_cases h : i = j
  · subst h; simp
  · have : Nat.beq i j = false := by rw [← Bool.not_eq_true, Nat.beq_eq]; exact h
    simp [this, h]
theorem get_del (l : List (Nat × α)) (i j : Nat) : get (del l i) j = if i = j then none else get l j := by
  induction l with
  | nil => simp [del, get]
  | cons p r ih =>
    obtain ⟨k, x⟩ := p
    rw [del]
    by_cases h : k = i
    · subst h
      simp only [Nat.beq_refl, cond_true]
      rw [ih, get_cons]
      by_cases hj : k = j <;> simp [hj]
    · have : Nat.beq k i = false := by rw [← Bool.not_eq_true, Nat.beq_eq]; exact h
      simp only [this, cond_false]
      rw [get_cons, get_cons, ih]
      by_cases hk : k = j
      · subst hk; simp [Ne.symm h]
      · simp [hk]
theorem get_put (l : List (Nat × α)) (i : Nat) (x : α) (j : Nat) : get (put l i x) j = if i = j then some x else get l j := by
  rw [put, get_cons, get_del]
  by_cases h : i = j <;> simp [h]
theorem get_map (l : List (Nat × α)) (f : α → β) (j : Nat) : get (l.map fun x => (x.1, f x.2)) j = (get l j).map f := by
  induction l with
  | nil => rfl
  | cons p r ih =>
    obtain ⟨k, x⟩ := p
    rw [List.map_cons, get_cons, get_cons, ih]
    by_cases h : k = j <;> simp [h]
end
theorem get_mapE (f : C → C) (g : Nat → Bool) (e : Env) (j : Nat) : get (mapE f g e) j = (get e j).map (mapV f g) := get_map e (mapV f g) j
theorem get_mapT (f : C → C) (T : Tab) (j : Nat) : get (mapT f T) j = (get T j).map (mapO f) := get_map T (mapO f) j

/-! ## Moving on -/
noncomputable def mapVh (f : C → C) (g : Nat → Bool) (h : Nat → Nat) : V → V
  | .c x => .c (f x)
  | .agg cs => .agg (cs.map f)
  | .tup vs => .tup (vs.map fun x => (x.1, x.2.map f))
  | .av n t xs => .av n t xs
  | .ra cs => .ra (cs.map f)
  | .oa id i off => bif g id then .oa (h id) i off else .undef
  | .pt id off => bif g id then .pt (h id) off else .undef
  | .cap id k => bif g id then .cap (h id) k else .undef
  | .skip => .skip
  | .undef => .undef
/-- From one memory to the next: read values stay as they are, cells become what f says, the addresses of the objects of g stay, the objects are called what h says. -/
structure Mv (fr fr2 : Fr) (σ : Nat → Value) (T : Tab) (w : World) (σ' : Nat → Value) (T' : Tab) (w' : World) (f : C → C) (g : Nat → Bool) (h : Nat → Nat) : Prop where
  foot : ∀ al b, Foot fr σ T w al b → Foot fr2 σ' T' w' al b ∧ w'.heap[b]? = w.heap[b]?
  cr : ∀ c v, CR fr σ T w c v → CR fr2 σ' T' w' (f c) v
  keep : ∀ id o, get T id = some o → g id = true → ∃ o', get T' (h id) = some o' ∧ σ' (h id) = σ id ∧ okind o' = okind o

section
variable {fr fr2 : Fr} {σ σ' : Nat → Value} {T T' : Tab} {w w' : World} {f : C → C} {g : Nat → Bool} {q : Nat → Nat}
theorem Mv.crs (m : Mv fr fr2 σ T w σ' T' w' f g q) : ∀ {cs : List C} {vs : List Value}, CRs fr σ T w cs vs → CRs fr2 σ' T' w' (cs.map f) vs
  | [], [], _ => trivial
  | c :: _, v :: _, h => ⟨m.cr c v h.1, Mv.crs m h.2⟩
  | [], _ :: _, h => h
  | _ :: _, [], h => h
theorem Mv.pr (m : Mv fr fr2 σ T w σ' T' w' f g q) {b : Bool} {cs : List C} {u : Value} (h : PR fr σ T w b cs u) : PR fr2 σ' T' w' b (cs.map f) u := by
  cases b with
  | true => exact h.imp fun arr h => ⟨h.1, m.crs h.2⟩
  | false =>
    obtain ⟨c, rfl, h⟩ := h
    exact ⟨f c, rfl, m.cr c u h⟩
theorem Mv.prs (m : Mv fr fr2 σ T w σ' T' w' f g q) : ∀ {vs : List (Bool × List C)} {us : List Value}, PRs fr σ T w vs us → PRs fr2 σ' T' w' (vs.map fun x => (x.1, x.2.map f)) us
  | [], [], _ => trivial
  | (_, _) :: _, _ :: _, h => ⟨m.pr h.1, Mv.prs m h.2⟩
  | [], _ :: _, h => h
  | _ :: _, [], h => h
theorem Mv.vrh (m : Mv fr fr2 σ T w σ' T' w' f g q) {v : V} {u : Value} (h : VR fr σ T w v u) : VR fr2 σ' T' w' (mapVh f g q v) u := by
  cases v with
  | c x => exact m.cr x u h
  | agg cs => exact h.imp fun arr h => ⟨h.1, m.crs h.2⟩
  | tup vs => exact h.imp fun arr h => ⟨h.1, m.prs h.2⟩
  | av n t xs => exact h.imp fun arr h => ⟨h.1, KF.imp (fun b hb => hb.elim) (.arr n t) xs _ h.2⟩
  | ra cs =>
    obtain ⟨ad, al, rfl, hs, hf, hc⟩ := h
    refine ⟨ad, al, rfl, hs, ?_, fun j c hj => ?_⟩
    · rcases hf with rfl | hf
      · exact .inl rfl
      · exact .inr (m.foot al _ hf).1
    · rw [List.getElem?_map] at hj
      cases hcj : cs[j]? with
      | none => rw [hcj] at hj; cases hj
      | some c0 =>
        rw [hcj] at hj
        simp at hj
        subst hj
        obtain ⟨u, hu, hr⟩ := hc j c0 hcj
        refine ⟨u, ?_, m.cr c0 u hr⟩
        rcases hf with rfl | hf
        · simp at hcj
        · simp only [World.cell?] at hu ⊢
          rw [(m.foot al _ hf).2]
          exact hu
  | oa id i off =>
    simp only [mapVh]
    cases hg : g id with
    | false => exact trivial
    | true =>
      obtain ⟨o, a0, ho, hi, ha, hsp, rfl⟩ := h
      obtain ⟨o', ho', hs, hz⟩ := m.keep id o ho hg
      exact ⟨o', a0, ho', by rw [hz]; exact hi, by rw [hs, ha], hsp, by rw [okind_size hz]⟩
  | pt id off =>
    simp only [mapVh]
    cases hg : g id with
    | false => exact trivial
    | true =>
      obtain ⟨o, a0, ho, ha, hsp, rfl⟩ := h
      obtain ⟨o', ho', hs, hz⟩ := m.keep id o ho hg
      exact ⟨o', a0, ho', by rw [hs, ha], hsp, rfl⟩
  | cap id k =>
    simp only [mapVh]
    cases hg : g id with
    | false => exact trivial
    | true =>
      obtain ⟨o, A, n, c, c', ho, hA, h1, h2, h3, h4⟩ := h
      obtain ⟨o', ho', hs, hz⟩ := m.keep id o ho hg
      exact ⟨o', A, n, c, c', ho', by rw [hs, hA], h1, h2, h3, h4⟩
  | skip => exact h
  | undef => trivial
theorem mapVh_id (v : V) : mapVh f g id v = mapV f g v := by cases v <;> rfl
theorem Mv.vr (m : Mv fr fr2 σ T w σ' T' w' f g id) {v : V} {u : Value} (h : VR fr σ T w v u) : VR fr2 σ' T' w' (mapV f g v) u := mapVh_id (f := f) (g := g) v ▸ m.vrh h

/-- An object that is left alone. -/
theorem Mv.or2 (m : Mv fr fr2 σ T w σ' T' w' f g q) {i : Nat} {o : Obj} (h : OR fr σ T w i o) {j : Nat} (hσ : σ' j = σ i) (hnw : ∀ b, blk (σ i) = some b → fr.new b → fr2.new b) (hb : ∀ b, blk (σ i) = some b → w'.heap[b]? = w.heap[b]?) : OR fr2 σ' T' w' j (mapO f o) := by
  cases o with
  | row e al t xs =>
    obtain ⟨inner, ho, hn, hx⟩ := h
    refine ⟨inner, ?_, fun b hb => by rw [hσ] at hb; exact hnw b hb (hn b hb), fun i x hi => KF.imp (fun b hb => m.foot al b hb) t x _ (hx i x hi)⟩
    rw [hσ]
    refine ⟨ho.1, ?_⟩
    rcases ho.2 with hn | ⟨g, cap, cur, hv, hg, hh, rest⟩
    · exact .inl hn
    · exact .inr ⟨g, cap, cur, hv, hg, by rw [hb g (by rw [hv]; rfl)]; exact hh, rest⟩
  | win _ _ _ => exact h
  | box ty cs =>
    obtain ⟨g, arr, hv, hg, hh, hc⟩ := h
    exact ⟨g, arr, by rw [hσ, hv], hnw g (by rw [hv]; rfl) hg, by rw [hb g (by rw [hv]; rfl)]; exact hh, m.crs hc⟩
  | arr ty n t xs =>
    obtain ⟨g, arr, hv, hg, hh, hc⟩ := h
    exact ⟨g, arr, by rw [hσ, hv], hnw g (by rw [hv]; rfl) hg, by rw [hb g (by rw [hv]; rfl)]; exact hh, KF.imp (fun b hb => hb.elim) (.arr n t) xs _ hc⟩
  | iter xs p =>
    obtain ⟨g, bs, hv, hg, hh, hc⟩ := h
    exact ⟨g, bs, by rw [hσ, hv], hnw g (by rw [hv]; rfl) hg, by rw [hb g (by rw [hv]; rfl)]; exact hh, hc⟩

theorem Mv.or (m : Mv fr fr σ T w σ' T' w' f g q) {i : Nat} {o : Obj} (h : OR fr σ T w i o) {j : Nat} (hσ : σ' j = σ i) (hb : ∀ b, blk (σ i) = some b → w'.heap[b]? = w.heap[b]?) : OR fr σ' T' w' j (mapO f o) := m.or2 h hσ (fun _ _ h => h) hb
/-- Cells keep what they are if the rows that they name are kept. -/
theorem CR.stay (foot : ∀ al b, Foot fr σ T w al b → Foot fr2 σ' T' w' al b ∧ w'.heap[b]? = w.heap[b]?) {c : C} {v : Value}
    (keep : ∀ id o, (c = .own id ∨ ∃ lo len, c = .view id lo len) → get T id = some o → ∃ o', get T' id = some o' ∧ σ' id = σ id ∧ okind o' = okind o)
    (h : CR fr σ T w c v) : CR fr2 σ' T' w' c v := by
  cases c with
  | int k n => exact h
  | bool b => exact h
  | str s => exact h
  | sl al t xs => exact KF.imp (fun b hb => foot al b hb) (.sl t) xs [v] h
  | nil => exact h
  | own id =>
    obtain ⟨rfl, o, ho⟩ := h
    obtain ⟨o', ho', hs, _⟩ := keep id o (.inl rfl) ho
    exact ⟨hs.symm, o', ho'⟩
  | view id lo len =>
    obtain ⟨o, A, n, cap, A', c', ho, hσ, h1, h2, h3, h4, h5⟩ := h
    obtain ⟨o', ho', hs, hz⟩ := keep id o (.inr ⟨lo, len, rfl⟩) ho
    exact ⟨o', A, n, cap, A', c', ho', by rw [hs, hσ], h1, h2, h3, h4, by rw [okind_size hz]; exact h5⟩
  | undef => exact h
/-- All stays. -/
theorem Mv.plain (foot : ∀ al b, Foot fr σ T w al b → Foot fr2 σ' T' w' al b ∧ w'.heap[b]? = w.heap[b]?)
    (keep : ∀ id o, get T id = some o → ∃ o', get T' id = some o' ∧ σ' id = σ id ∧ okind o' = okind o) : Mv fr fr2 σ T w σ' T' w' id (fun _ => true) id :=
  ⟨foot, fun _ _ h => CR.stay foot (fun id o _ => keep id o) h, fun id o ho _ => keep id o ho⟩
end
theorem mapV_id (v : V) : mapV id (fun _ => true) v = v := by
  cases v <;> simp [mapV]
theorem mapO_id (o : Obj) : mapO id o = o := by
  cases o <;> simp [mapO]
theorem Mv.vr' {fr : Fr} {σ σ' : Nat → Value} {T T' : Tab} {w w' : World} (m : Mv fr fr σ T w σ' T' w' id (fun _ => true) id) {v : V} {u : Value} (h : VR fr σ T w v u) : VR fr σ' T' w' v u := by
  have := m.vr h
  rwa [mapV_id] at this
theorem Mv.or' {fr : Fr} {σ σ' : Nat → Value} {T T' : Tab} {w w' : World} (m : Mv fr fr σ T w σ' T' w' id (fun _ => true) id) {i : Nat} {o : Obj} (h : OR fr σ T w i o) (hσ : σ' i = σ i) (hb : ∀ b, blk (σ i) = some b → w'.heap[b]? = w.heap[b]?) : OR fr σ' T' w' i o := by
  have := m.or h (j := i) hσ hb
  rwa [mapO_id] at this
theorem Mv.crs' {fr : Fr} {σ σ' : Nat → Value} {T T' : Tab} {w w' : World} (m : Mv fr fr σ T w σ' T' w' id (fun _ => true) id) {cs : List C} {vs : List Value} (h : CRs fr σ T w cs vs) : CRs fr σ' T' w' cs vs := by
  have := m.crs h
  rwa [List.map_id] at this

end Go.Proofs.YtkadllkeekoopaaGreat.Abs
end

section
namespace Go.Proofs.YtkadllkeekoopaaGreat.Abs
open Go.RowKit

section
variable {fr : Fr} {σ : Nat → Value} {s : St} {a : Act} {w : World}

def upd (σ : Nat → Value) (i : Nat) (v : Value) : Nat → Value := fun k => if k = i then v else σ k
theorem upd_same (σ : Nat → Value) (i : Nat) (v : Value) : upd σ i v i = v := by simp [upd]
theorem upd_other (σ : Nat → Value) (i : Nat) (v : Value) {k : Nat} (h : k ≠ i) : upd σ i v k = σ k := by simp [upd, h]

/-! ## Slots -/
theorem RelS.dest (R : RelS fr σ s a w) {v : V} {u : Value} (h : VR fr σ s.T w v u) (dst : Option Nat) : RelS fr σ (putV fr.n s dst v) (a.put dst u) w := by
  cases dst with
  | none => exact R
  | some d =>
    simp only [putV]
    cases hd : Nat.blt d fr.n with
    | false =>
      have hlt : ¬ d < a.tmps.size := by
        rw [R.tmps]
        intro hlt
        rw [Nat.blt_eq.mpr hlt] at hd
        cases hd
      have : a.put (some d) u = a := by
        cases a
        simp only [Act.put] at hlt ⊢
        rw [Array.setIfInBounds_eq_of_size_le (by omega)]
      rw [this]
      exact R
    | true =>
      have hlt : d < a.tmps.size := by rw [R.tmps]; exact Nat.blt_eq.mp hd
      refine ⟨R.kept, R.fa, R.dist, R.objs, fun i x hi => ?_, ?_, R.small, R.defers⟩
      · simp only [cond_true, get_put] at hi
        by_cases hid : d = i
        · subst hid
          simp at hi
          subst hi
          have hds : d < 1000000 := Nat.lt_of_lt_of_le (by rw [R.tmps] at hlt; exact hlt) R.small
          unfold Fr.val
          rw [if_pos hds]
          simpa [Act.put, hlt] using h
        · rw [if_neg hid] at hi
          have := R.env i x hi
          unfold Fr.val at this ⊢
          simp only [Act.put]
          rw [Array.getD_eq_getD_getElem?, Array.getElem?_setIfInBounds_ne hid, ← Array.getD_eq_getD_getElem?]
          exact this
      · simp [Act.put, R.tmps]

theorem RelS.lit (R : RelS fr σ s a w) {o : Oper} {d : Nat} {b : Bool} (hd : o.dst = some d) (h : get s.env d = some (.c (.bool b))) : RelS fr σ (literalB s o b) a w := by
  refine ⟨R.kept, R.fa, ?_, ?_, ?_, R.tmps, R.small, R.defers⟩ <;> simp only [literalB, hd]
  · exact R.dist
  · exact R.objs
  · intro i v hi
    rw [get_put] at hi
    by_cases hid : d = i
    · subst hid
      simp at hi
      subst hi
      exact R.env d _ h
    · rw [if_neg hid] at hi
      exact R.env i v hi

/-! ## Steps -/
theorem RelS.map (R : RelS fr σ s a w) {σ' : Nat → Value} {T' : Tab} {w' : World} {f : C → C} {g : Nat → Bool} (m : Mv fr fr σ s.T w σ' T' w' f g id)
    (hb : Kept fr w') (hd : ∀ id o id' o', get T' id = some o → get T' id' = some o' → id ≠ id' → ∀ b, blk (σ' id) = some b → blk (σ' id') ≠ some b)
    (ho : ∀ id o, get T' id = some o → OR fr σ' T' w' id o) : RelS fr σ' ⟨mapE f g s.env, T'⟩ a w' := by
  refine ⟨hb, R.fa, hd, ho, fun i v hi => ?_, R.tmps, R.small, R.defers⟩
  rw [get_mapE] at hi
  cases hv : get s.env i with
  | none => rw [hv] at hi; cases hi
  | some v0 =>
    rw [hv] at hi
    simp at hi
    subst hi
    exact m.vr (R.env i v0 hv)
theorem RelS.same (R : RelS fr σ s a w) {σ' : Nat → Value} {T' : Tab} {w' : World} (m : Mv fr fr σ s.T w σ' T' w' id (fun _ => true) id)
    (hb : Kept fr w') (hd : ∀ id o id' o', get T' id = some o → get T' id' = some o' → id ≠ id' → ∀ b, blk (σ' id) = some b → blk (σ' id') ≠ some b)
    (ho : ∀ id o, get T' id = some o → OR fr σ' T' w' id o) : RelS fr σ' ⟨s.env, T'⟩ a w' := by
  refine ⟨hb, R.fa, hd, ho, fun i v hi => m.vr' (R.env i v hi), R.tmps, R.small, R.defers⟩
theorem RelS.base (R : RelS fr σ s a w) : fr.w0.heap.size ≤ w.heap.size := R.kept.size
theorem RelS.up (R : RelS fr σ s a w) {w' : World} (hb : Below w.heap.size w w') : Kept fr w' := R.kept.up hb

/-- The memory has grown. -/
theorem RelS.grow (R : RelS fr σ s a w) {w' : World} (hb : Below w.heap.size w w') : RelS fr σ s a w' := by
  have hm : Mv fr fr σ s.T w σ s.T w' id (fun _ => true) id := .plain (fun al b h => ⟨⟨Nat.lt_of_lt_of_le h.1 hb.size, h.2⟩, hb.block b h.1⟩) (fun id o h => ⟨o, h, rfl, rfl⟩)
  exact R.same hm (R.up hb) R.dist fun id o ho => hm.or' (R.objs id o ho) rfl fun b h => hb.block b ((R.objs id o ho).lt b h).2
theorem Below.self_drew (B : Nat) (w : World) : Below B w w.drew := (Below.refl B w).drew
/-- A new object. -/
theorem RelS.new (R : RelS fr σ s a w) {id : Nat} {o : Obj} {s' : St} (h : newO id o s = some s') {w' : World} (hb : Below w.heap.size w w') {v : Value}
    (hv : ∀ b, blk v = some b → w.heap.size ≤ b) (ho : OR fr (upd σ id v) s'.T w' id o) : RelS fr (upd σ id v) s' a w' := by
  have hn : get s.T id = none := by
    simp only [newO] at h
    split at h
    · assumption
    · cases h
  simp only [newO, hn] at h
  simp at h
  subst h
  have hne : ∀ i o', get s.T i = some o' → i ≠ id := fun i o' hi e => by rw [e, hn] at hi; cases hi
  have hown : ∀ b, Own (upd σ id v) ((id, o) :: s.T) b → Own σ s.T b ∨ w.heap.size ≤ b := by
    rintro b ⟨i, o', hi, hbl⟩
    rw [get_cons] at hi
    by_cases e : id = i
    · subst e
      rw [upd_same] at hbl
      exact .inr (hv b hbl)
    · rw [if_neg e] at hi
      rw [upd_other σ id v (Ne.symm e)] at hbl
      exact .inl ⟨i, o', hi, hbl⟩
  have hm : Mv fr fr σ s.T w (upd σ id v) ((id, o) :: s.T) w' _root_.id (fun _ => true) _root_.id := .plain
    (fun al b h => ⟨⟨Nat.lt_of_lt_of_le h.1 hb.size, fun hw => (hown b hw).elim h.2.1 (fun hle => absurd h.1 (by omega)), h.2.2⟩, hb.block b h.1⟩)
    (fun i o' hi => ⟨o', by rw [get_cons, if_neg (Ne.symm (hne i o' hi))]; exact hi, upd_other σ id v (hne i o' hi), rfl⟩)
  refine R.same hm (R.up hb) ?_ ?_
  · intro i o1 j o2 hi hj hij b hbi hbj
    rw [get_cons] at hi hj
    by_cases e : id = i
    · subst e
      rw [if_neg hij] at hj
      rw [upd_same] at hbi
      rw [upd_other σ id v (Ne.symm hij)] at hbj
      have h1 := hv b hbi
      have h2 := ((R.objs j o2 hj).lt b hbj).2
      omega
    · rw [if_neg e] at hi
      rw [upd_other σ id v (Ne.symm e)] at hbi
      by_cases e' : id = j
      · subst e'
        rw [upd_same] at hbj
        have h1 := hv b hbj
        have h2 := ((R.objs i o1 hi).lt b hbi).2
        omega
      · rw [if_neg e'] at hj
        rw [upd_other σ id v (Ne.symm e')] at hbj
        exact R.dist i o1 j o2 hi hj hij b hbi hbj
  · intro i o' hi
    rw [get_cons] at hi
    by_cases e : id = i
    · subst e
      simp at hi
      subst hi
      exact ho
    · rw [if_neg e] at hi
      exact hm.or' (R.objs i o' hi) (upd_other σ id v (Ne.symm e)) fun b h => hb.block b ((R.objs i o' hi).lt b h).2

/-- An object has been written. -/
theorem RelS.set (R : RelS fr σ s a w) {id : Nat} {o o' : Obj} (ho : get s.T id = some o) (hz : okind o' = okind o) {w' : World} (hg : w.grownBy w' (blk (σ id)))
    (h' : OR fr σ (setO id o' s).T w' id o') : RelS fr σ (setO id o' s) a w' := by
  have hb : Kept fr w' := R.kept.grown hg fun k hk => ((R.objs id o ho).lt k hk).1
  have hget : ∀ i, get (setO id o' s).T i = if id = i then some o' else get s.T i := fun i => by
    simp only [setO, get_cons, get_del]
    by_cases e : id = i <;> simp [e]
  have hown : ∀ b, Own σ (setO id o' s).T b → Own σ s.T b := by
    rintro b ⟨i, o1, hi, hbl⟩
    rw [hget] at hi
    by_cases e : id = i
    · exact ⟨id, o, ho, e ▸ hbl⟩
    · rw [if_neg e] at hi
      exact ⟨i, o1, hi, hbl⟩
  have hm : Mv fr fr σ s.T w σ (setO id o' s).T w' _root_.id (fun _ => true) _root_.id := .plain
    (fun al b h => ⟨⟨Nat.lt_of_lt_of_le h.1 hg.size, fun hw => h.2.1 (hown b hw), h.2.2⟩, hg.block b h.1 (fun e => h.2.1 ⟨id, o, ho, e.symm⟩)⟩)
    (fun i o1 hi => by
      rw [hget]
      by_cases e : id = i
      · subst e
        rw [ho] at hi
        cases hi
        exact ⟨o', by simp, rfl, hz⟩
      · exact ⟨o1, by rw [if_neg e]; exact hi, rfl, rfl⟩)
  refine R.same (T' := (setO id o' s).T) hm hb ?_ ?_
  · intro i o1 j o2 hi hj hij
    rw [hget] at hi hj
    have hi' : ∃ o1, get s.T i = some o1 := by
      by_cases e : id = i
      · exact ⟨o, e ▸ ho⟩
      · rw [if_neg e] at hi; exact ⟨o1, hi⟩
    have hj' : ∃ o1, get s.T j = some o1 := by
      by_cases e : id = j
      · exact ⟨o, e ▸ ho⟩
      · rw [if_neg e] at hj; exact ⟨o2, hj⟩
    obtain ⟨p, hp⟩ := hi'
    obtain ⟨q, hq⟩ := hj'
    exact R.dist i p j q hp hq hij
  · intro i o1 hi
    rw [hget] at hi
    by_cases e : id = i
    · subst e
      simp at hi
      subst hi
      exact h'
    · rw [if_neg e] at hi
      refine hm.or' (R.objs i o1 hi) rfl fun b h => hg.block b ((R.objs i o1 hi).lt b h).2 (fun e' => ?_)
      exact R.dist i o1 id o hi ho (Ne.symm e) b h e'.symm

/-! ## Rows struck -/
theorem purge_cr {T' : Tab} {σ' : Nat → Value} {w' : World} {id : Nat} {fr2 : Fr} (R : RelS fr σ s a w) (foot : ∀ al b, Foot fr σ s.T w al b → Foot fr2 σ' T' w' al b ∧ w'.heap[b]? = w.heap[b]?)
    (keep : ∀ i o, i ≠ id → get s.T i = some o → ∃ o', get T' i = some o' ∧ σ' i = σ i ∧ okind o' = okind o) (c : C) (v : Value) (h : CR fr σ s.T w c v) : CR fr2 σ' T' w' (purgeC id c) v := by
  have h1 := CR.one R h
  cases c with
  | own i =>
    simp only [purgeC]
    by_cases e : i = id
    · subst e
      simp only [Nat.beq_refl, cond_true]
      exact h1
    · have : Nat.beq i id = false := by rw [← Bool.not_eq_true, Nat.beq_eq]; exact e
      simp only [this, cond_false]
      exact CR.stay foot (fun j o hj ho => by
        rcases hj with hj | ⟨_, _, hj⟩
        · cases hj; exact keep i o e ho
        · cases hj) h
  | view i lo len =>
    simp only [purgeC]
    by_cases e : i = id
    · subst e
      simp only [Nat.beq_refl, cond_true]
      exact h1
    · have : Nat.beq i id = false := by rw [← Bool.not_eq_true, Nat.beq_eq]; exact e
      simp only [this, cond_false]
      exact CR.stay foot (fun j o hj ho => by
        rcases hj with hj | ⟨_, _, hj⟩
        · cases hj
        · cases hj; exact keep i o e ho) h
  | int k n => exact CR.stay (c := .int k n) foot (fun j o hj _ => by rcases hj with hj | ⟨_, _, hj⟩ <;> cases hj) h
  | bool b => exact h
  | str b => exact h
  | sl al t xs => exact CR.stay (c := .sl al t xs) foot (fun j o hj _ => by rcases hj with hj | ⟨_, _, hj⟩ <;> cases hj) h
  | nil => exact h
  | undef => exact h

/-- The row that was object id has been moved to v', all other mentions of it are struck. -/
theorem RelS.moved (R : RelS fr σ s a w) {id : Nat} {o o' : Obj} (ho : get s.T id = some o) {w' : World} (hg : w.grownBy w' (blk (σ id))) {v : Value}
    (hv : ∀ b, blk v = some b → blk (σ id) = some b ∨ w.heap.size ≤ b) (h' : OR fr (upd σ id v) (setO id o' (purge id s)).T w' id o') :
    RelS fr (upd σ id v) (setO id o' (purge id s)) a w' := by
  have hb : Kept fr w' := R.kept.grown hg fun k hk => ((R.objs id o ho).lt k hk).1
  have hget : ∀ i, get (setO id o' (purge id s)).T i = if id = i then some o' else (get s.T i).map (mapO (purgeC id)) := fun i => by
    simp only [setO, purge, get_cons, get_del, get_mapT]
    by_cases e : id = i <;> simp [e]
  have hown : ∀ b, Own (upd σ id v) (setO id o' (purge id s)).T b → Own σ s.T b ∨ w.heap.size ≤ b := by
    rintro b ⟨i, o1, hi, hbl⟩
    rw [hget] at hi
    by_cases e : id = i
    · subst e
      rw [upd_same] at hbl
      exact (hv b hbl).imp (fun h => ⟨id, o, ho, h⟩) (fun h => h)
    · rw [if_neg e] at hi
      rw [upd_other σ id v (Ne.symm e)] at hbl
      cases hi' : get s.T i with
      | none => rw [hi'] at hi; cases hi
      | some o2 => exact .inl ⟨i, o2, hi', hbl⟩
  have hfoot : ∀ al b, Foot fr σ s.T w al b → Foot fr (upd σ id v) (setO id o' (purge id s)).T w' al b ∧ w'.heap[b]? = w.heap[b]? := fun al b h =>
    ⟨⟨Nat.lt_of_lt_of_le h.1 hg.size, fun hw => (hown b hw).elim h.2.1 (fun hle => absurd h.1 (by omega)), h.2.2⟩, hg.block b h.1 (fun e => h.2.1 ⟨id, o, ho, e.symm⟩)⟩
  have hkeep : ∀ i o1, i ≠ id → get s.T i = some o1 → ∃ o2, get (setO id o' (purge id s)).T i = some o2 ∧ upd σ id v i = σ i ∧ okind o2 = okind o1 := fun i o1 hi h =>
    ⟨mapO (purgeC id) o1, by rw [hget, if_neg (Ne.symm hi), h]; rfl, upd_other σ id v hi, by cases o1 <;> rfl⟩
  have hm : Mv fr fr σ s.T w (upd σ id v) (setO id o' (purge id s)).T w' (purgeC id) (fun i => !Nat.beq i id) _root_.id :=
    ⟨hfoot, purge_cr R hfoot hkeep, fun i o1 h hi => hkeep i o1 (fun e => by subst e; simp at hi) h⟩
  refine R.map (T' := (setO id o' (purge id s)).T) hm hb ?_ ?_
  · intro i o1 j o2 hi hj hij b hbi hbj
    have old : ∀ i o1, id ≠ i → get (setO id o' (purge id s)).T i = some o1 → ∃ o2, get s.T i = some o2 := fun i o1 e hi => by
      rw [hget, if_neg e] at hi
      cases hi' : get s.T i with
      | none => rw [hi'] at hi; cases hi
      | some o2 => exact ⟨o2, rfl⟩
    by_cases e : id = i
    · subst e
      rw [upd_same] at hbi
      rw [upd_other σ id v (Ne.symm hij)] at hbj
      obtain ⟨q, hq⟩ := old j o2 hij hj
      rcases hv b hbi with h | h
      · exact R.dist id o j q ho hq hij b h hbj
      · have := ((R.objs j q hq).lt b hbj).2
        omega
    · obtain ⟨p, hp⟩ := old i o1 e hi
      rw [upd_other σ id v (Ne.symm e)] at hbi
      by_cases e' : id = j
      · subst e'
        rw [upd_same] at hbj
        rcases hv b hbj with h | h
        · exact R.dist i p id o hp ho hij b hbi h
        · have := ((R.objs i p hp).lt b hbi).2
          omega
      · obtain ⟨q, hq⟩ := old j o2 e' hj
        rw [upd_other σ id v (Ne.symm e')] at hbj
        exact R.dist i p j q hp hq hij b hbi hbj
  · intro i o1 hi
    rw [hget] at hi
    by_cases e : id = i
    · subst e
      simp at hi
      subst hi
      exact h'
    · rw [if_neg e] at hi
      cases hi' : get s.T i with
      | none => rw [hi'] at hi; cases hi
      | some o2 =>
        rw [hi'] at hi
        simp at hi
        subst hi
        refine hm.or (R.objs i o2 hi') (upd_other σ id v (Ne.symm e)) fun b h => hg.block b ((R.objs i o2 hi').lt b h).2 (fun e' => ?_)
        exact R.dist i o2 id o hi' ho (Ne.symm e) b h e'.symm
end
end Go.Proofs.YtkadllkeekoopaaGreat.Abs
end

section
namespace Go.Proofs.YtkadllkeekoopaaGreat.Abs
open Go.RowKit

theorem beq_ne {i j : Nat} (h : i ≠ j) : Nat.beq i j = false := by rw [← Bool.not_eq_true, Nat.beq_eq]; exact h
theorem asL_some {t u : Ty} {xs : List u.den} {ys : List t.den} (h : asL t u xs = some ys) : ∃ e : u = t, ys = castL e xs := by
  unfold asL at h
  split at h
  · rename_i e
    cases h
    exact ⟨e, rfl⟩
  · cases h

section
variable {fr : Fr} {σ : Nat → Value} {s : St} {a : Act} {w : World}

theorem RelS.slot (R : RelS fr σ s a w) {i : Nat} {v : V} (h : VR fr σ s.T w v (fr.val a i)) : RelS fr σ ⟨put s.env i v, s.T⟩ a w := by
  refine ⟨R.kept, R.fa, R.dist, R.objs, fun j x hj => ?_, R.tmps, R.small, R.defers⟩
  rw [get_put] at hj
  by_cases e : i = j
  · subst e
    simp at hj
    subst hj
    exact h
  · rw [if_neg e] at hj
    exact R.env j x hj
theorem RelS.congr (R : RelS fr σ s a w) {T' : Tab} (h : ∀ i, get T' i = get s.T i) : RelS fr σ ⟨s.env, T'⟩ a w := by
  have hown : ∀ b, Own σ T' b → Own σ s.T b := fun b ⟨i, o, hi, hb⟩ => ⟨i, o, (h i) ▸ hi, hb⟩
  have hm : Mv fr fr σ s.T w σ T' w id (fun _ => true) id := .plain (fun al b hf => ⟨⟨hf.1, fun hw => hf.2.1 (hown b hw), hf.2.2⟩, rfl⟩) (fun i o hi => ⟨o, by rw [h]; exact hi, rfl, rfl⟩)
  refine R.same hm R.kept ?_ ?_
  · intro i o1 j o2 hi hj
    rw [h] at hi hj
    exact R.dist i o1 j o2 hi hj
  · intro i o hi
    rw [h] at hi
    exact hm.or' (R.objs i o hi) rfl fun _ _ => rfl

/-! ## What a row reads as -/
theorem row_read {T : Tab} {id : Nat} {e : TypeId} {al : Bool} {t : Ty} {xs : List t.den} (h : OR fr σ T w id (.row e al t xs)) {F : Nat → Prop} (hF : ∀ b, Foot fr σ T w al b → F b) (hb : ∀ b, blk (σ id) = some b → F b) :
    ∃ A cap, σ id = .slice A xs.length cap ∧ xs.length ≤ cap ∧ (xs = [] ∨ ∃ g, A = some ⟨g, 0, none⟩) ∧ ∀ lo len A', lo + len ≤ xs.length → (0 < len → ∃ ad, A = some ad ∧ A' = some (ad.add (lo * t.size))) → RowF w F (KF w F t) t.size A' ((xs.drop lo).take len) := by
  obtain ⟨inner, ho, _, hx⟩ := h
  have hlen := ho.1
  rcases ho.2 with ⟨hv, hn⟩ | ⟨g, cap, cur, hv, hg, hh, hnc, _, hcs, htake⟩
  · have hnil : xs = [] := List.eq_nil_of_length_eq_zero hn
    subst hnil
    exact ⟨none, 0, by rw [hv]; rfl, Nat.le_refl _, .inl rfl, fun lo len A' _ _ => .inl (by simp)⟩
  · refine ⟨some ⟨g, 0, none⟩, cap, hv, hnc, .inr ⟨g, rfl⟩, fun lo len A' hl hA => ?_⟩
    by_cases h0 : len = 0
    · subst h0; exact .inl (by simp)
    · obtain ⟨ad, had, hA'⟩ := hA (Nat.pos_of_ne_zero h0)
      cases had
      refine .inr ⟨⟨g, lo * t.size, none⟩, by rw [hA', Addr.add_lit]; simp, rfl, hb g (by rw [hv]; rfl), fun i x hi => ?_⟩
      have hi' : xs[lo + i]? = some x ∧ i < len := by
        rw [List.getElem?_take] at hi
        split at hi
        · rw [List.getElem?_drop] at hi
          exact ⟨hi, by assumption⟩
        · cases hi
      have hk := hx (lo + i) x hi'.1
      have hlt : lo + i < xs.length := by omega
      refine ⟨_, ?_, KF.imp (fun b hf => ⟨hF b hf, rfl⟩) t x _ hk, fun j u hj => ?_⟩
      · rw [List.length_take, List.length_drop, hlen]
        have : (lo + i + 1) * t.size ≤ xs.length * t.size := Nat.mul_le_mul_right _ hlt
        rw [Nat.add_mul] at this
        omega
      · rw [List.getElem?_take] at hj
        split at hj
        · rename_i hjs
          rw [List.getElem?_drop] at hj
          have hw := ho
          rw [hv] at hw
          have : (lo + i + 1) * t.size ≤ xs.length * t.size := Nat.mul_le_mul_right _ hlt
          rw [Nat.add_mul] at this
          have hc := hw.cellAt ((lo + i) * t.size + j) (by omega)
          rw [hj] at hc
          have e : lo * t.size + (i * t.size + j) = (lo + i) * t.size + j := by rw [Nat.add_mul]; omega
          show w.cell? ⟨g, lo * t.size + (i * t.size + j), none⟩ = some u
          rw [e]
          exact hc
        · cases hj
/-- The whole row. -/
theorem row_whole {T : Tab} {id : Nat} {e : TypeId} {al : Bool} {t : Ty} {xs : List t.den} (h : OR fr σ T w id (.row e al t xs)) {F : Nat → Prop} (hF : ∀ b, Foot fr σ T w al b → F b) (hb : ∀ b, blk (σ id) = some b → F b) : KF w F (.sl t) xs [σ id] := by
  obtain ⟨A, cap, hσ, hc, hA, hr⟩ := row_read h hF hb
  refine ⟨A, cap, by rw [hσ], hc, ?_⟩
  have := hr 0 xs.length A (by omega) (fun h0 => by
    rcases hA with rfl | ⟨g, rfl⟩
    · simp at h0
    · exact ⟨_, rfl, by simp [Addr.add]⟩)
  simpa using this
/-- A part of it. -/
theorem row_part {T : Tab} {id : Nat} {e : TypeId} {al : Bool} {t : Ty} {xs : List t.den} (h : OR fr σ T w id (.row e al t xs)) {F : Nat → Prop} (hF : ∀ b, Foot fr σ T w al b → F b) (hb : ∀ b, blk (σ id) = some b → F b)
    (hT : get T id = some (.row e al t xs)) {lo len : Nat} {v : Value} (hv : CR fr σ T w (.view id lo len) v) : lo + len ≤ xs.length ∧ KF w F (.sl t) ((xs.drop lo).take len) [v] := by
  obtain ⟨o, A, n, cap, A', c', ho, hσ, h1, rfl, h3, h4, h5⟩ := hv
  rw [hT] at ho
  cases ho
  obtain ⟨A2, cap2, hσ2, hc, hA, hr⟩ := row_read h hF hb
  rw [hσ] at hσ2
  cases hσ2
  refine ⟨h1, A', c', ?_, ?_, hr lo len A' h1 h5⟩
  · rw [List.length_take, List.length_drop]
    congr 2
    omega
  · rw [List.length_take, List.length_drop]
    omega

/-! ## Rows that are only read from here on -/
theorem RelS.freeze (R : RelS fr σ s a w) {id : Nat} {s' : St} (h : freeze id s = some s') : RelS fr σ s' a w := by
  unfold Go.Proofs.YtkadllkeekoopaaGreat.Abs.freeze at h
  split at h
  · rename_i e al t xs ho
    cases h
    have hr := R.objs id _ ho
    have hget : ∀ i, get (mapT (freezeC id al t xs) (del s.T id)) i = if id = i then none else (get s.T i).map (mapO (freezeC id al t xs)) := fun i => by
      rw [get_mapT, get_del]
      by_cases e : id = i <;> simp [e]
    have hown : ∀ b, Own σ (mapT (freezeC id al t xs) (del s.T id)) b → Own σ s.T b ∧ blk (σ id) ≠ some b := by
      rintro b ⟨i, o1, hi, hbl⟩
      rw [hget] at hi
      by_cases e : id = i
      · rw [if_pos e] at hi; cases hi
      · rw [if_neg e] at hi
        cases hi' : get s.T i with
        | none => rw [hi'] at hi; cases hi
        | some o2 => exact ⟨⟨i, o2, hi', hbl⟩, R.dist i o2 id _ hi' ho (Ne.symm e) b hbl⟩
    have hF : ∀ al' b, Foot fr σ s.T w al' b → Foot fr σ (mapT (freezeC id al t xs) (del s.T id)) w al' b := fun al' b hf => ⟨hf.1, fun hw => hf.2.1 (hown b hw).1, hf.2.2⟩
    have hb : ∀ b, blk (σ id) = some b → Foot fr σ (mapT (freezeC id al t xs) (del s.T id)) w al b := fun b hb =>
      ⟨(hr.lt b hb).2, fun hw => (hown b hw).2 hb, .inl (hr.lt b hb).1⟩
    have hkeep : ∀ i o1, i ≠ id → get s.T i = some o1 → ∃ o2, get (mapT (freezeC id al t xs) (del s.T id)) i = some o2 ∧ σ i = σ i ∧ okind o2 = okind o1 := fun i o1 hi h =>
      ⟨mapO (freezeC id al t xs) o1, by rw [hget, if_neg (Ne.symm hi), h]; rfl, rfl, by cases o1 <;> rfl⟩
    have hm : Mv fr fr σ s.T w σ (mapT (freezeC id al t xs) (del s.T id)) w (freezeC id al t xs) (fun i => !Nat.beq i id) _root_.id := by
      refine ⟨fun al' b hf => ⟨hF al' b hf, rfl⟩, fun c v hc => ?_, fun i o1 h hi => hkeep i o1 (fun e => by subst e; simp at hi) h⟩
      cases c with
      | own i =>
        simp only [freezeC]
        by_cases e : i = id
        · subst e
          simp only [Nat.beq_refl, cond_true]
          obtain ⟨rfl, _⟩ := hc
          exact row_whole hr (hF al) hb
        · simp only [beq_ne e, cond_false]
          exact CR.stay (fun al' b hf => ⟨hF al' b hf, rfl⟩) (fun j o hj ho => by
            rcases hj with hj | ⟨_, _, hj⟩
            · cases hj; exact hkeep i o e ho
            · cases hj) hc
      | view i lo len =>
        simp only [freezeC]
        by_cases e : i = id
        · subst e
          simp only [Nat.beq_refl, cond_true]
          exact (row_part hr (hF al) hb ho hc).2
        · simp only [beq_ne e, cond_false]
          exact CR.stay (fun al' b hf => ⟨hF al' b hf, rfl⟩) (fun j o hj ho => by
            rcases hj with hj | ⟨_, _, hj⟩
            · cases hj
            · cases hj; exact hkeep i o e ho) hc
      | int k n => exact hc
      | bool b => exact hc
      | str b => exact hc
      | sl al' t' xs' => exact CR.stay (c := .sl al' t' xs') (fun al' b hf => ⟨hF al' b hf, rfl⟩) (fun j o hj _ => by rcases hj with hj | ⟨_, _, hj⟩ <;> cases hj) hc
      | nil => exact hc
      | undef => exact hc
    refine R.map (T' := mapT (freezeC id al t xs) (del s.T id)) hm R.kept ?_ ?_
    · intro i o1 j o2 hi hj hij
      have old : ∀ i o1, get (mapT (freezeC id al t xs) (del s.T id)) i = some o1 → ∃ o2, get s.T i = some o2 := fun i o1 hi => by
        rw [hget] at hi
        split at hi
        · cases hi
        · cases hi' : get s.T i with
          | none => rw [hi'] at hi; cases hi
          | some o2 => exact ⟨o2, rfl⟩
      obtain ⟨p, hp⟩ := old i o1 hi
      obtain ⟨q, hq⟩ := old j o2 hj
      exact R.dist i p j q hp hq hij
    · intro i o1 hi
      rw [hget] at hi
      split at hi
      · cases hi
      · cases hi' : get s.T i with
        | none => rw [hi'] at hi; cases hi
        | some o2 =>
          rw [hi'] at hi
          simp at hi
          subst hi
          exact hm.or (R.objs i o2 hi') rfl fun _ _ => rfl
  · cases h
theorem RelS.freezeAll : ∀ {ids : List Nat} {s s' : St}, RelS fr σ s a w → freezeAll ids s = some s' → RelS fr σ s' a w
  | [], s, s', R, h => by cases h; exact R
  | id :: r, s, s', R, h => by
    simp only [Go.Proofs.YtkadllkeekoopaaGreat.Abs.freezeAll] at h
    split at h
    · exact RelS.freezeAll R h
    · split at h
      · rename_i s1 hs
        exact RelS.freezeAll (R.freeze hs) h
      · cases h

/-! ## Rows take other numbers -/
theorem sw_eq (i j k : Nat) : sw i j k = if k = i then j else if k = j then i else k := by
  unfold sw
  by_cases h : k = i
  · subst h; simp
  · rw [beq_ne h, if_neg h]
    by_cases h' : k = j
    · subst h'; simp
    · rw [beq_ne h', if_neg h']; rfl
theorem sw_sw (i j k : Nat) : sw i j (sw i j k) = k := by
  simp only [sw_eq]
  by_cases h : k = i <;> by_cases h' : k = j <;> by_cases e : i = j <;> simp_all
theorem sw_inj {i j k l : Nat} (h : sw i j k = sw i j l) : k = l := by rw [← sw_sw i j k, h, sw_sw]
theorem get_renT {i j : Nat} : ∀ {T : Tab} (k : Nat), get (renT i j T) k = (get T (sw i j k)).map (renO i j)
  | [], k => by simp [renT, get]
  | (id, o) :: r, k => by
    rw [renT, get_cons, get_cons, get_renT k]
    by_cases e : id = sw i j k
    · rw [if_pos e, if_pos (by rw [e, sw_sw])]; rfl
    · rw [if_neg e, if_neg (fun h => e (by rw [← h, sw_sw]))]
theorem renV_eq (i j : Nat) (v : V) : renV i j v = mapVh (renC i j) (fun _ => true) (sw i j) v := by
  cases v <;> rfl
theorem renO_eq (i j : Nat) (o : Obj) : renO i j o = mapO (renC i j) o := by cases o <;> rfl
theorem RelS.ren (R : RelS fr σ s a w) {i j : Nat} {s' : St} (h : ren i j s = some s') : ∃ σ', RelS fr σ' s' a w := by
  unfold Go.Proofs.YtkadllkeekoopaaGreat.Abs.ren at h
  by_cases e : i = j
  · subst e
    simp at h
    subst h
    exact ⟨σ, R⟩
  · rw [beq_ne e] at h
    simp only [cond_false] at h
    cases h
    have hget := fun k => get_renT (i := i) (j := j) (T := s.T) k
    let q : Nat → Nat := sw i j
    let σ' : Nat → Value := fun k => σ (sw i j k)
    have back : ∀ k o', get (renT i j s.T) k = some o' → ∃ k0 o, get s.T k0 = some o ∧ o' = renO i j o ∧ q k0 = k ∧ σ' k = σ k0 := fun k o' hk => by
      rw [hget] at hk
      cases hi : get s.T (sw i j k) with
      | none => rw [hi] at hk; cases hk
      | some o =>
        rw [hi] at hk
        simp at hk
        exact ⟨sw i j k, o, hi, hk.symm, sw_sw i j k, rfl⟩
    have fwd : ∀ k o, get s.T k = some o → get (renT i j s.T) (q k) = some (renO i j o) ∧ σ' (q k) = σ k := fun k o hk => by
      rw [hget]
      show (get s.T (sw i j (sw i j k))).map _ = _ ∧ σ (sw i j (sw i j k)) = σ k
      rw [sw_sw, hk]
      exact ⟨rfl, rfl⟩
    have hown : ∀ b, Own σ' (renT i j s.T) b → Own σ s.T b := fun b ⟨k, o', hk, hb⟩ => by
      obtain ⟨k0, o, hk0, _, _, hs⟩ := back k o' hk
      exact ⟨k0, o, hk0, hs ▸ hb⟩
    have hF : ∀ al b, Foot fr σ s.T w al b → Foot fr σ' (renT i j s.T) w al b := fun al b hf => ⟨hf.1, fun hw => hf.2.1 (hown b hw), hf.2.2⟩
    have hm : Mv fr fr σ s.T w σ' (renT i j s.T) w (renC i j) (fun _ => true) q := by
      refine ⟨fun al b hf => ⟨hF al b hf, rfl⟩, fun c v hc => ?_, fun k o hk _ => ⟨renO i j o, (fwd k o hk).1, (fwd k o hk).2, by cases o <;> rfl⟩⟩
      cases c with
      | own k =>
        obtain ⟨rfl, o, ho⟩ := hc
        have hf := fwd k o ho
        exact ⟨hf.2.symm, _, hf.1⟩
      | view k lo len =>
        obtain ⟨o, A, n, cap, A', c', ho, hσ, h1, h2, h3, h4, h5⟩ := hc
        have hf := fwd k o ho
        refine ⟨_, A, n, cap, A', c', hf.1, by rw [hf.2, hσ], h1, h2, h3, h4, ?_⟩
        have : osize (renO i j o) = osize o := by cases o <;> rfl
        rw [this]
        exact h5
      | int k n => exact hc
      | bool b => exact hc
      | str b => exact hc
      | sl al' t' xs' => exact KF.imp (fun b hb => ⟨hF al' b hb, rfl⟩) (.sl t') xs' [v] hc
      | nil => exact hc
      | undef => exact hc
    refine ⟨σ', R.kept, R.fa, ?_, ?_, ?_, R.tmps, R.small, R.defers⟩
    · intro k o1 l o2 hk hl hkl b hbk hbl
      obtain ⟨k0, p, hp, _, hqk, hs⟩ := back k o1 hk
      obtain ⟨l0, p', hp', _, hql, hs'⟩ := back l o2 hl
      rw [hs] at hbk
      rw [hs'] at hbl
      exact R.dist k0 p l0 p' hp hp' (fun e => hkl (by rw [← hqk, ← hql, e])) b hbk hbl
    · intro k o' hk
      obtain ⟨k0, o, hk0, rfl, _, hs⟩ := back k o' hk
      rw [renO_eq]
      exact hm.or (R.objs k0 o hk0) hs fun _ _ => rfl
    · intro k v hk
      have hk' : get (s.env.map fun x => (x.1, renV i j x.2)) k = some v := hk
      rw [get_map] at hk'
      cases hv : get s.env k with
      | none => rw [hv] at hk'; cases hk'
      | some v0 =>
        rw [hv] at hk'
        simp at hk'
        subst hk'
        rw [renV_eq]
        exact hm.vrh (R.env k v0 hv)
end
end Go.Proofs.YtkadllkeekoopaaGreat.Abs
end

section
namespace Go.Proofs.YtkadllkeekoopaaGreat.Abs
open Go.RowKit

/-! ## Shapes -/
/-- A cell that says less. -/
inductive CWk : C → C → Prop
  | refl (c : C) : CWk c c
  | sl (al al' : Bool) (t : Ty) (xs : List t.den) (h : al = true → al' = true) : CWk (.sl al t xs) (.sl al' t xs)
  | nil (al : Bool) (t : Ty) : CWk .nil (.sl al t [])
def cIn (T : Tab) : C → Prop
  | .own id => ∃ o, get T id = some o
  | .view id _ _ => ∃ o, get T id = some o
  | _ => True
inductive CsWk : List C → List C → Prop
  | nil : CsWk [] []
  | cons {c c' : C} {cs cs' : List C} (h : CWk c c') (t : CsWk cs cs') : CsWk (c :: cs) (c' :: cs')
inductive VWk : V → V → Prop
  | c {x x' : C} (h : CWk x x') : VWk (.c x) (.c x')
  | agg {cs cs' : List C} (h : CsWk cs cs') : VWk (.agg cs) (.agg cs')
  | refl (v : V) : VWk v v
def vIn (T : Tab) : V → Prop
  | .c x => cIn T x
  | .agg cs => ∀ c ∈ cs, cIn T c
  | .pt id _ => ∃ o, get T id = some o
  | .av _ _ _ => True
  | _ => False
inductive OWk : Obj → Obj → Prop
  | row (e : TypeId) (al al' : Bool) (t : Ty) (xs : List t.den) (h : al = true → al' = true) : OWk (.row e al t xs) (.row e al' t xs)
  | box (ty : TypeId) {cs cs' : List C} (h : CsWk cs cs') : OWk (.box ty cs) (.box ty cs')
  | arr (ty : TypeId) (n : Nat) (t : Ty) (xs : List t.den) : OWk (.arr ty n t xs) (.arr ty n t xs)
  | iter (s : List UInt8) (p : Nat) : OWk (.iter s p) (.iter s p)
def oIn (T : Tab) : Obj → Prop
  | .box _ cs => ∀ c ∈ cs, cIn T c
  | _ => True

theorem al_of {al al' : Bool} (h : (al' || !al) = true) : al = true → al' = true := by cases al <;> cases al' <;> simp_all
theorem ble_of {b : Bool} {α : Type} {x y : Option α} {z : α} (h : (bif b then x else y) = some z) : (b = true ∧ x = some z) ∨ (b = false ∧ y = some z) := by cases b <;> simp_all

theorem packC_spec {R : Type} {c : C} {r : R} : ∀ {x : Sh} {z : Sh.cons R x}, packC c r x = some z → (unpackC x z).2 = r ∧ CWk c (unpackC x z).1
  | .int k, z, h => by
    cases c <;> simp [packC] at h
    obtain ⟨rfl, rfl⟩ := h
    exact ⟨rfl, .refl _⟩
  | .bool, z, h => by
    cases c <;> simp [packC] at h
    subst h
    exact ⟨rfl, .refl _⟩
  | .str, z, h => by
    cases c <;> simp [packC] at h
    subst h
    exact ⟨rfl, .refl _⟩
  | .sl al t, z, h => by
    cases c with
    | sl al' u xs =>
      simp only [packC] at h
      rcases ble_of h with ⟨ha, h⟩ | ⟨_, h⟩
      · split at h
        · rename_i ys hy
          cases h
          obtain ⟨rfl, rfl⟩ := asL_some hy
          exact ⟨rfl, .sl _ _ _ _ (al_of ha)⟩
        · cases h
      · cases h
    | nil =>
      simp only [packC] at h
      cases h
      exact ⟨rfl, .nil _ _⟩
    | _ => simp [packC] at h
  | .nil, z, h => by
    cases c <;> simp [packC] at h
    subst h
    exact ⟨rfl, .refl _⟩
  | .own id, z, h => by
    cases c with
    | own i =>
      simp only [packC] at h
      rcases ble_of h with ⟨ha, h'⟩ | ⟨_, h'⟩
      · have := Nat.eq_of_beq_eq_true ha
        subst this
        cases h'
        exact ⟨rfl, .refl _⟩
      · cases h'
    | _ => simp [packC] at h
  | .view id, z, h => by
    cases c with
    | view i a n =>
      simp only [packC] at h
      rcases ble_of h with ⟨ha, h'⟩ | ⟨_, h'⟩
      · have := Nat.eq_of_beq_eq_true ha
        subst this
        cases h'
        exact ⟨rfl, .refl _⟩
      · cases h'
    | _ => simp [packC] at h
theorem unpackC_in {R : Type} {T : Tab} {objs : List (Nat × OSh)} (hT : ∀ id, (get objs id).isSome = true → ∃ o, get T id = some o) : ∀ {x : Sh} {z : Sh.cons R x}, idOk objs x = true → cIn T (unpackC x z).1
  | .int _, _, _ => trivial
  | .bool, _, _ => trivial
  | .str, _, _ => trivial
  | .sl _ _, _, _ => trivial
  | .nil, _, _ => trivial
  | .own id, _, h => hT id h
  | .view id, _, h => hT id h
theorem packCs_spec {R : Type} {r : R} : ∀ {cs : List C} {xs : List Sh} {z : Sh.conses R xs}, packCs cs r xs = some z → (unpackCs xs z).2 = r ∧ CsWk cs (unpackCs xs z).1
  | [], [], z, h => by cases h; exact ⟨rfl, .nil⟩
  | [], _ :: _, z, h => by cases h
  | _ :: _, [], z, h => by cases h
  | c :: cs, x :: xs, z, h => by
    rw [packCs] at h
    split at h
    · rename_i r' hr
      have h1 := packC_spec h
      have h2 := packCs_spec hr
      simp only [unpackCs]
      rw [h1.1]
      exact ⟨h2.1, .cons h1.2 h2.2⟩
    · cases h
theorem unpackCs_in {R : Type} {T : Tab} {objs : List (Nat × OSh)} (hT : ∀ id, (get objs id).isSome = true → ∃ o, get T id = some o) : ∀ {xs : List Sh} {z : Sh.conses R xs}, xs.all (idOk objs) = true → ∀ c ∈ (unpackCs xs z).1, cIn T c
  | [], _, _, c, hc => by cases hc
  | x :: xs, z, h, c, hc => by
    simp only [List.all_cons, Bool.and_eq_true] at h
    simp only [unpackCs] at hc
    cases hc with
    | head => exact unpackC_in hT h.1
    | tail _ hc => exact unpackCs_in hT h.2 c hc
theorem flat_cells : ∀ (al : Bool) (t : Ty) (x : t.den) (T : Tab) (c : C), c ∈ flat al t x → cIn T c
  | _, .int _, _, _, c, h => by simp [flat] at h; subst h; trivial
  | _, .bool, _, _, c, h => by simp [flat] at h; subst h; trivial
  | _, .str, _, _, c, h => by simp [flat] at h; subst h; trivial
  | _, .unit, _, _, c, h => by simp [flat] at h
  | _, .sl _, _, _, c, h => by simp [flat] at h; subst h; trivial
  | al, .arr n t, xs, T, c, h => by
    simp only [flat, List.mem_flatMap] at h
    obtain ⟨i, _, h⟩ := h
    exact flat_cells al t _ T c h
  | al, .pair a b, x, T, c, h => by
    simp only [flat, List.mem_append] at h
    rcases h with h | h
    · exact flat_cells al a x.1 T c h
    · exact flat_cells al b x.2 T c h
theorem CsWk.app {a b c d : List C} (h : CsWk a b) (k : CsWk c d) : CsWk (a ++ c) (b ++ d) := by
  induction h with
  | nil => exact k
  | cons h t ih => exact .cons h ih
theorem flLe_app {al : Bool} : ∀ {cs ds : List C}, flLe al (cs ++ ds) = true → flLe al cs = true ∧ flLe al ds = true
  | [], _, h => ⟨rfl, h⟩
  | c :: cs, ds, h => by
    cases c <;> simp only [List.cons_append, flLe, Bool.and_eq_true] at h ⊢
    case sl => exact ⟨⟨h.1, (flLe_app h.2).1⟩, (flLe_app h.2).2⟩
    all_goals exact flLe_app h
theorem unflat_wk {al : Bool} : ∀ (t : Ty) (cs : List C) (x : t.den) (r : List C), unflat [] t cs = some (x, r) → ∃ pre, cs = pre ++ r ∧ (flLe al pre = true → CsWk pre (flat al t x))
  | .int k, cs, x, r, h => by
    cases cs with
    | nil => simp [unflat] at h
    | cons c cs =>
      cases c <;> simp only [unflat] at h <;> try cases h
      split at h
      · rename_i e
        subst e
        cases h
        exact ⟨[_], rfl, fun _ => .cons (.refl _) .nil⟩
      · cases h
  | .bool, cs, x, r, h => by
    cases cs with
    | nil => simp [unflat] at h
    | cons c cs =>
      cases c <;> simp only [unflat] at h <;> try cases h
      exact ⟨[_], rfl, fun _ => .cons (.refl _) .nil⟩
  | .str, cs, x, r, h => by
    cases cs with
    | nil => simp [unflat] at h
    | cons c cs =>
      cases c <;> simp only [unflat] at h <;> try cases h
      exact ⟨[_], rfl, fun _ => .cons (.refl _) .nil⟩
  | .unit, cs, x, r, h => by
    simp only [unflat] at h
    cases h
    exact ⟨[], rfl, fun _ => .nil⟩
  | .sl t, cs, x, r, h => by
    cases cs with
    | nil => simp [unflat] at h
    | cons c cs =>
      simp only [unflat] at h
      split at h
      case h_2 => cases h
      rename_i xs hx
      cases h
      refine ⟨[c], rfl, fun hf => ?_⟩
      cases c with
      | sl a u ys =>
        obtain ⟨rfl, hxe⟩ := asL_some hx
        have hxe : x = ys := hxe
        subst hxe
        simp only [flLe, Bool.and_true] at hf
        exact .cons (.sl a al _ _ (al_of hf)) .nil
      | nil =>
        simp only [cont] at hx
        cases hx
        exact .cons (.nil al t) .nil
      | own id => simp [cont, get] at hx
      | view id lo len => simp [cont, get] at hx
      | _ => simp [cont] at hx
  | .arr n t, cs, x, r, h => by
    have key : ∀ (n : Nat) (cs : List C) (xs : List t.den) (r : List C), repM (unflat [] t) n cs = some (xs, r) → xs.length = n ∧ ∃ pre, cs = pre ++ r ∧ (flLe al pre = true → ∀ (f : Nat → t.den) (k : Nat), (∀ i y, xs[i]? = some y → f (k + i) = y) → CsWk pre ((List.range' k n).flatMap fun i => flat al t (f i))) := fun n => by
      induction n with
      | zero =>
        intro cs xs r h
        simp only [repM] at h
        cases h
        exact ⟨rfl, [], rfl, fun _ f k _ => .nil⟩
      | succ n ih =>
        intro cs xs r h
        simp only [repM] at h
        split at h
        case h_2 => cases h
        rename_i y r1 h1
        split at h
        case h_2 => cases h
        rename_i ys r2 h2
        cases h
        obtain ⟨pre1, rfl, g1⟩ := unflat_wk t cs y r1 h1
        obtain ⟨hl, pre2, rfl, g2⟩ := ih r1 ys r h2
        refine ⟨by simp [hl], pre1 ++ pre2, by rw [List.append_assoc], fun hf f k hfk => ?_⟩
        obtain ⟨f1, f2⟩ := flLe_app hf
        rw [List.range'_succ, List.flatMap_cons]
        refine CsWk.app ?_ (g2 f2 f (k + 1) fun i z hz => ?_)
        · have := hfk 0 y rfl
          rw [Nat.add_zero] at this
          rw [this]
          exact g1 f1
        · have := hfk (i + 1) z (by simpa using hz)
          rwa [show k + 1 + i = k + (i + 1) by omega]
    simp only [unflat] at h
    obtain ⟨hl, pre, e, g⟩ := key n cs x r h
    refine ⟨pre, e, fun hf => ?_⟩
    have := g hf (fun i => x.getD i t.zero) 0 fun i y hy => by
      rw [Nat.zero_add]
      show x.getD i t.zero = y
      rw [List.getD_eq_getElem?_getD, hy]
      rfl
    rw [← List.range_eq_range'] at this
    exact this
  | .pair a b, cs, x, r, h => by
    simp only [unflat] at h
    split at h
    case h_2 => cases h
    rename_i y r1 h1
    split at h
    case h_2 => cases h
    rename_i z r2 h2
    cases h
    obtain ⟨pre1, rfl, g1⟩ := unflat_wk (al := al) a cs y r1 h1
    obtain ⟨pre2, rfl, g2⟩ := unflat_wk (al := al) b r1 z r h2
    refine ⟨pre1 ++ pre2, by rw [List.append_assoc], fun hf => ?_⟩
    obtain ⟨f1, f2⟩ := flLe_app hf
    exact CsWk.app (g1 f1) (g2 f2)
theorem packV_spec {R : Type} {v : V} {r : R} : ∀ {x : VSh} {z : VSh.cons R x}, packV v r x = some z → (unpackV x z).2 = r ∧ VWk v (unpackV x z).1
  | .c x, z, h => by
    cases v <;> simp only [packV] at h <;> try cases h
    have := packC_spec h
    exact ⟨this.1, .c this.2⟩
  | .agg xs, z, h => by
    cases v <;> simp only [packV] at h <;> try cases h
    have := packCs_spec h
    exact ⟨this.1, .agg this.2⟩
  | .av n t, z, h => by
    cases v with
    | av m u ys =>
      simp only [packV] at h
      rcases ble_of h with ⟨ha, h'⟩ | ⟨_, h'⟩
      · have := Nat.eq_of_beq_eq_true ha
        subst this
        split at h'
        · rename_i hy
          cases h'
          obtain ⟨rfl, rfl⟩ := asL_some hy
          exact ⟨rfl, .refl _⟩
        · cases h'
      · cases h'
    | _ => simp [packV] at h
  | .pt id off, z, h => by
    cases v with
    | pt i o =>
      simp only [packV] at h
      rcases ble_of h with ⟨ha, h'⟩ | ⟨_, h'⟩
      · simp only [Bool.and_eq_true] at ha
        have h1 := Nat.eq_of_beq_eq_true ha.1
        have h2 := Nat.eq_of_beq_eq_true ha.2
        subst h1 h2
        cases h'
        exact ⟨rfl, .refl _⟩
      · cases h'
    | _ => simp [packV] at h
  | .tv al t, z, h => by
    cases v with
    | agg cs =>
      have h : (match unflat [] t cs with | some (x, []) => (bif flLe al cs then some (x, r) else none) | _ => none) = some z := h
      split at h
      · rename_i x hx
        rcases ble_of h with ⟨hf, h'⟩ | ⟨_, h'⟩
        · cases h'
          obtain ⟨pre, e, g⟩ := unflat_wk (al := al) t cs x [] hx
          rw [List.append_nil] at e
          subst e
          exact ⟨rfl, .agg (g hf)⟩
        · cases h'
      · cases h
    | _ => simp [packV] at h
theorem unpackV_in {R : Type} {T : Tab} {objs : List (Nat × OSh)} (hT : ∀ id, (get objs id).isSome = true → ∃ o, get T id = some o) : ∀ {x : VSh} {z : VSh.cons R x}, vOk objs x = true → vIn T (unpackV x z).1
  | .c _, _, h => unpackC_in hT h
  | .agg _, _, h => unpackCs_in hT h
  | .av _ _, _, _ => trivial
  | .pt id _, _, h => hT id h
  | .tv al t, z, _ => fun c hc => flat_cells al t z.1 T c hc
theorem packO_spec {R : Type} {o : Obj} {r : R} : ∀ {x : OSh} {z : OSh.cons R x}, packO o r x = some z → (unpackO x z).2 = r ∧ OWk o (unpackO x z).1
  | .row e al t, z, h => by
    cases o with
    | row e' al' u xs =>
      simp only [packO] at h
      rcases ble_of h with ⟨ha, h'⟩ | ⟨_, h'⟩
      · split at h'
        · rename_i hy
          cases h'
          obtain ⟨rfl, rfl⟩ := asL_some hy
          simp only [Bool.and_eq_true] at ha
          have h1 := Nat.eq_of_beq_eq_true ha.1
          subst h1
          exact ⟨rfl, .row _ _ _ _ _ (al_of ha.2)⟩
        · cases h'
      · cases h'
    | _ => simp [packO] at h
  | .box ty xs, z, h => by
    cases o with
    | box ty' cs =>
      simp only [packO] at h
      rcases ble_of h with ⟨ha, h'⟩ | ⟨_, h'⟩
      · have h1 := Nat.eq_of_beq_eq_true ha
        subst h1
        have := packCs_spec h'
        exact ⟨this.1, .box _ this.2⟩
      · cases h'
    | _ => simp [packO] at h
  | .arr ty n t, z, h => by
    cases o with
    | arr ty' m u xs =>
      simp only [packO] at h
      rcases ble_of h with ⟨ha, h'⟩ | ⟨_, h'⟩
      · split at h'
        · rename_i hy
          cases h'
          obtain ⟨rfl, rfl⟩ := asL_some hy
          simp only [Bool.and_eq_true] at ha
          have h1 := Nat.eq_of_beq_eq_true ha.1
          have h2 := Nat.eq_of_beq_eq_true ha.2
          subst h1 h2
          exact ⟨rfl, .arr _ _ _ _⟩
        · cases h'
      · cases h'
    | _ => simp [packO] at h
  | .tb ty al t, z, h => by
    cases o with
    | box ty' cs =>
      have h0 : (bif Nat.beq ty ty' then (match unflat [] t cs with | some (x, []) => (bif flLe al cs then some (x, r) else none) | _ => none) else none) = some z := h
      clear h
      rcases ble_of h0 with ⟨ha, h1⟩ | ⟨_, h1⟩
      · have e := Nat.eq_of_beq_eq_true ha
        subst e
        clear h0
        split at h1
        · rename_i x hx
          rcases ble_of h1 with ⟨hf, h2⟩ | ⟨_, h2⟩
          · clear h1
            cases h2
            obtain ⟨pre, e, g⟩ := unflat_wk (al := al) t cs x [] hx
            rw [List.append_nil] at e
            subst e
            exact ⟨rfl, .box _ (g hf)⟩
          · cases h2
        · cases h1
      · cases h1
    | _ => simp [packO] at h
  | .iter, z, h => by
    cases o with
    | iter xs p => cases h; exact ⟨rfl, .iter _ _⟩
    | _ => simp [packO] at h
theorem unpackO_in {R : Type} {T : Tab} {objs : List (Nat × OSh)} (hT : ∀ id, (get objs id).isSome = true → ∃ o, get T id = some o) : ∀ {x : OSh} {z : OSh.cons R x}, oOk objs x = true → oIn T (unpackO x z).1
  | .row _ _ _, _, _ => trivial
  | .box _ _, _, h => unpackCs_in hT h
  | .arr _ _ _, _, _ => trivial
  | .tb _ al t, z, _ => fun c hc => flat_cells al t z.1 T c hc
  | .iter, _, _ => trivial

theorem packObjs_spec {T : Tab} : ∀ {xs : List (Nat × OSh)} {z : objsX xs}, packObjs T xs = some z → ∀ id o', get (unpackObjs xs z) id = some o' → ∃ o, get T id = some o ∧ OWk o o'
  | [], _, _, id, o', h => by cases h
  | (i, x) :: r, z, hp, id, o', h => by
    rw [packObjs] at hp
    split at hp
    · rename_i r' hr
      split at hp
      · rename_i o ho
        have h1 := packO_spec hp
        simp only [unpackObjs, get_cons] at h
        split at h
        · rename_i e
          subst e
          cases h
          exact ⟨o, ho, h1.2⟩
        · rw [h1.1] at h
          exact packObjs_spec hr id o' h
      · cases hp
    · cases hp
theorem unpackObjs_has {T : Tab} {objs : List (Nat × OSh)} : ∀ {xs : List (Nat × OSh)} {z : objsX xs}, (∀ p ∈ xs, oOk objs p.2 = true) → (∀ id, (get objs id).isSome = true → ∃ o, get T id = some o) → ∀ id o', get (unpackObjs xs z) id = some o' → oIn T o'
  | [], _, _, _, id, o', h => by cases h
  | (i, x) :: r, z, hk, hT, id, o', h => by
    simp only [unpackObjs, get_cons] at h
    split at h
    · cases h
      exact unpackO_in hT (hk _ List.mem_cons_self)
    · exact unpackObjs_has (fun p hp => hk p (List.mem_cons_of_mem _ hp)) hT id o' h
theorem unpackObjs_is : ∀ {xs : List (Nat × OSh)} {z : objsX xs} (id : Nat), (get xs id).isSome = true → ∃ o, get (unpackObjs xs z) id = some o
  | [], _, id, h => by simp [get] at h
  | (i, x) :: r, z, id, h => by
    rw [get_cons] at h
    simp only [unpackObjs, get_cons]
    split
    · exact ⟨_, rfl⟩
    · rename_i e
      rw [if_neg e] at h
      exact unpackObjs_is id h
theorem packSlots_spec {R : Type} {e : Env} {r0 : R} : ∀ {xs : List (Nat × VSh)} {z : slotsX R xs}, packSlots e r0 xs = some z → (unpackSlots xs z).2 = r0 ∧ ∀ i v', get (unpackSlots xs z).1 i = some v' → ∃ v, get e i = some v ∧ VWk v v'
  | [], z, h => by cases h; exact ⟨rfl, fun i v' h => by cases h⟩
  | (j, x) :: r, z, hp => by
    rw [packSlots] at hp
    split at hp
    · rename_i r' hr
      split at hp
      · rename_i v hv
        have h1 := packV_spec hp
        have h2 := packSlots_spec hr
        refine ⟨by simp only [unpackSlots]; rw [h1.1]; exact h2.1, fun i v' h => ?_⟩
        simp only [unpackSlots, get_cons] at h
        split at h
        · rename_i e
          subst e
          cases h
          exact ⟨v, hv, h1.2⟩
        · rw [h1.1] at h
          exact h2.2 i v' h
      · cases hp
    · cases hp
theorem unpackSlots_in {R : Type} {T : Tab} {objs : List (Nat × OSh)} (hT : ∀ id, (get objs id).isSome = true → ∃ o, get T id = some o) : ∀ {xs : List (Nat × VSh)} {z : slotsX R xs}, (∀ p ∈ xs, vOk objs p.2 = true) → ∀ i v', get (unpackSlots xs z).1 i = some v' → vIn T v'
  | [], _, _, i, v', h => by cases h
  | (j, x) :: r, z, hk, i, v', h => by
    simp only [unpackSlots, get_cons] at h
    split at h
    · cases h
      exact unpackV_in hT (hk _ List.mem_cons_self)
    · exact unpackSlots_in hT (fun p hp => hk p (List.mem_cons_of_mem _ hp)) i v' h

section
variable {fr : Fr} {σ : Nat → Value} {s : St} {a : Act} {w : World}
theorem CR.weak {T T' : Tab} (hF : ∀ al b, Foot fr σ T w al b → Foot fr σ T' w al b) (hT : ∀ id o', get T' id = some o' → ∃ o, get T id = some o ∧ okind o = okind o') {c c' : C} {v : Value} (h : CR fr σ T w c v) (hc : CWk c c') (hi : cIn T' c') : CR fr σ T' w c' v := by
  cases hc with
  | sl al al' t xs ha =>
    refine KF.imp (fun b hb => ⟨hF al' b ?_, rfl⟩) (.sl t) xs [v] h
    exact ⟨hb.1, hb.2.1, hb.2.2.imp (fun h => h) (fun h => ⟨ha h.1, h.2⟩)⟩
  | nil al t =>
    rw [show v = _ from h]
    exact ⟨none, 0, rfl, Nat.le_refl _, .inl rfl⟩
  | refl =>
    refine CR.stay (fun al b hf => ⟨hF al b hf, rfl⟩) (fun j o hj ho => ?_) h
    have : ∃ o', get T' j = some o' := by
      rcases hj with rfl | ⟨_, _, rfl⟩ <;> exact hi
    obtain ⟨o', ho'⟩ := this
    obtain ⟨o2, ho2, hz⟩ := hT j o' ho'
    rw [ho] at ho2
    cases ho2
    exact ⟨o', ho', rfl, hz.symm⟩
theorem CRs.weak {T T' : Tab} (hF : ∀ al b, Foot fr σ T w al b → Foot fr σ T' w al b) (hT : ∀ id o', get T' id = some o' → ∃ o, get T id = some o ∧ okind o = okind o') {cs cs' : List C} (hc : CsWk cs cs') : ∀ {vs : List Value}, CRs fr σ T w cs vs → (∀ c ∈ cs', cIn T' c) → CRs fr σ T' w cs' vs := by
  induction hc with
  | nil => intro vs h _; cases vs <;> exact h
  | cons h t ih =>
    intro vs hv hi
    cases vs with
    | nil => exact hv
    | cons v vs => exact ⟨CR.weak hF hT hv.1 h (hi _ List.mem_cons_self), ih hv.2 fun c hc => hi c (List.mem_cons_of_mem _ hc)⟩

theorem RelS.pack (R : RelS fr σ s a w) {d : Desc} (hc : closed d = true) {z : d.X} (h : pack d s = some z) : RelS fr σ (unpack d z) a w := by
  unfold Go.Proofs.YtkadllkeekoopaaGreat.Abs.pack at h
  split at h
  case h_2 => cases h
  rename_i r hr
  have hs := packSlots_spec h
  simp only [closed, Bool.and_eq_true, List.all_eq_true] at hc
  unfold unpack
  rw [hs.1]
  have hO := packObjs_spec hr
  have hz : ∀ id o', get (unpackObjs d.objs r) id = some o' → ∃ o, get s.T id = some o ∧ okind o = okind o' := fun id o' h => by
    obtain ⟨o, ho, hw⟩ := hO id o' h
    exact ⟨o, ho, by cases hw <;> rfl⟩
  have hF : ∀ al b, Foot fr σ s.T w al b → Foot fr σ (unpackObjs d.objs r) w al b := fun al b hf => ⟨hf.1, fun ⟨i, o', hi, hb⟩ => hf.2.1 (by
    obtain ⟨o, ho, _⟩ := hO i o' hi
    exact ⟨i, o, ho, hb⟩), hf.2.2⟩
  have hin : ∀ id, (get d.objs id).isSome = true → ∃ o, get (unpackObjs d.objs r) id = some o := fun id h => unpackObjs_is id h
  refine ⟨R.kept, R.fa, ?_, ?_, ?_, R.tmps, R.small, R.defers⟩
  · intro i o1 j o2 hi hj
    obtain ⟨p, hp, _⟩ := hO i o1 hi
    obtain ⟨q, hq, _⟩ := hO j o2 hj
    exact R.dist i p j q hp hq
  · intro i o' hi
    obtain ⟨o, ho, hw⟩ := hO i o' hi
    have hR := R.objs i o ho
    have hoi := unpackObjs_has (z := r) hc.2 hin i o' hi
    cases hw with
    | row e al al' t xs ha =>
      obtain ⟨inner, h1, hn, h2⟩ := hR
      refine ⟨inner, h1, hn, fun k x hx => KF.imp (fun b hb => ⟨hF al' b ?_, rfl⟩) t x _ (h2 k x hx)⟩
      exact ⟨hb.1, hb.2.1, hb.2.2.imp (fun h => h) (fun h => ⟨ha h.1, h.2⟩)⟩
    | box ty hcs =>
      obtain ⟨g, arr, h1, h2, h3, h4⟩ := hR
      exact ⟨g, arr, h1, h2, h3, CRs.weak hF hz hcs h4 hoi⟩
    | arr ty n t xs => exact hR
    | iter s p => exact hR
  · intro i v' hi
    obtain ⟨v, hv, hw⟩ := hs.2 i v' hi
    have hR := R.env i v hv
    rw [← hs.1] at hin hF hz
    have hvi := unpackSlots_in hin hc.1 i v' hi
    rw [hs.1] at hin hF hz hvi
    cases hw with
    | c h => exact CR.weak hF hz hR h hvi
    | agg h => exact hR.imp fun arr hA => ⟨hA.1, CRs.weak hF hz h hA.2 hvi⟩
    | refl =>
      cases v' with
      | c x => exact CR.weak hF hz hR (.refl _) hvi
      | agg cs =>
        have : ∀ cs, CsWk cs cs := fun cs => by induction cs with
          | nil => exact .nil
          | cons c cs ih => exact .cons (.refl c) ih
        exact hR.imp fun arr hA => ⟨hA.1, CRs.weak hF hz (this cs) hA.2 hvi⟩
      | av n t xs => exact hR
      | pt id off =>
        obtain ⟨o, a0, ho, ha, hsp, hu⟩ := hR
        obtain ⟨o', ho'⟩ := hvi
        exact ⟨o', a0, ho', ha, hsp, hu⟩
      | tup _ => exact hvi.elim
      | ra _ => exact hvi.elim
      | oa _ _ _ => exact hvi.elim
      | cap _ _ => exact hvi.elim
      | skip => exact hvi.elim
      | undef => exact hvi.elim

/-! ## Rows are claimed -/
theorem nil_row (fr : Fr) (σ : Nat → Value) (T : Tab) (w : World) (id : Nat) (e : TypeId) (al : Bool) (t : Ty) : OR fr (upd σ id (.slice none 0 0)) T w id (.row e al t []) :=
  ⟨[], by rw [upd_same]; exact World.ownsRow_nil w _ e t.size, fun b hb => by rw [upd_same] at hb; simp [blk] at hb, fun i x hi => by cases hi⟩
theorem newO_some {id : Nat} {o : Obj} {s s' : St} (h : newO id o s = some s') : get s.T id = none ∧ s' = ⟨s.env, (id, o) :: s.T⟩ := by
  unfold newO at h
  split at h
  · rename_i hn
    cases h
    exact ⟨hn, rfl⟩
  · cases h
theorem RelS.claimSlot (R : RelS fr σ s a w) {objs : List (Nat × OSh)} {i id : Nat} {s' : St} (h : claimSlot objs i id s = some s') : ∃ σ', RelS fr σ' s' a w := by
  unfold Go.Proofs.YtkadllkeekoopaaGreat.Abs.claimSlot at h
  split at h
  · exact R.ren h
  · rename_i hv
    split at h
    · rename_i e al t _
      obtain ⟨hn, rfl⟩ := newO_some h
      have h1 : newO id (.row e al t []) s = some ⟨s.env, (id, .row e al t []) :: s.T⟩ := by
        have hn' : get s.T id = none := hn
        simp only [newO, hn']
      have R1 := R.new h1 (Below.refl _ w) (v := .slice none 0 0) (by simp [blk]) (nil_row fr σ _ w id e al t)
      refine ⟨_, R1.slot (i := i) (v := .c (.own id)) ⟨?_, _, by rw [get_cons, if_pos rfl]⟩⟩
      rw [upd_same]
      exact R.env i _ hv
    · cases h
  · cases h
theorem setCs_nil {T : Tab} {σ' : Nat → Value} {id : Nat} (hσ : σ' id = .slice none 0 0) (hT : ∃ o, get T id = some o) : ∀ {cs : List C} {j : Nat} {vs : List Value}, CRs fr σ' T w cs vs → cs[j]? = some .nil → CRs fr σ' T w (setCs cs j (.own id)) vs
  | [], j, vs, _, hj => by simp at hj
  | c :: cs, j, [], h, _ => h.elim
  | c :: cs, 0, v :: vs, h, hj => by
    simp at hj
    subst hj
    exact ⟨⟨by rw [hσ]; exact h.1, hT⟩, h.2⟩
  | c :: cs, j + 1, v :: vs, h, hj => ⟨h.1, setCs_nil hσ hT h.2 (by simpa using hj)⟩
theorem RelS.claimAgg (R : RelS fr σ s a w) {objs : List (Nat × OSh)} {i j id : Nat} {s' : St} (h : claimAgg objs i j id s = some s') : ∃ σ', RelS fr σ' s' a w := by
  unfold Go.Proofs.YtkadllkeekoopaaGreat.Abs.claimAgg at h
  split at h
  case h_2 => cases h
  rename_i cs hv
  split at h
  · exact R.ren h
  · rename_i hj
    split at h
    · rename_i e al t _
      obtain ⟨hn, rfl⟩ := newO_some h
      have h1 : newO id (.row e al t []) s = some ⟨s.env, (id, .row e al t []) :: s.T⟩ := by
        have hn' : get s.T id = none := hn
        simp only [newO, hn']
      have R1 := R.new h1 (Below.refl _ w) (v := .slice none 0 0) (by simp [blk]) (nil_row fr σ _ w id e al t)
      obtain ⟨arr, harr, hcs⟩ := R1.env i _ hv
      exact ⟨_, R1.slot (i := i) (v := .agg (setCs cs j (.own id))) ⟨arr, harr, setCs_nil (by rw [upd_same]) ⟨_, by rw [get_cons, if_pos rfl]⟩ hcs hj⟩⟩
    · cases h
  · cases h
theorem RelS.claimAggs {objs : List (Nat × OSh)} {i : Nat} : ∀ {xs : List Sh} {j : Nat} {σ : Nat → Value} {s s' : St}, RelS fr σ s a w → claimAggs objs i j xs s = some s' → ∃ σ', RelS fr σ' s' a w
  | [], j, σ, s, s', R, h => by cases h; exact ⟨σ, R⟩
  | x :: r, j, σ, s, s', R, h => by
    cases x with
    | own id =>
      simp only [Go.Proofs.YtkadllkeekoopaaGreat.Abs.claimAggs] at h
      split at h
      · rename_i s1 hs
        obtain ⟨σ1, R1⟩ := R.claimAgg hs
        exact RelS.claimAggs R1 h
      · cases h
    | _ => simp only [Go.Proofs.YtkadllkeekoopaaGreat.Abs.claimAggs] at h; exact RelS.claimAggs R h
theorem RelS.claimView (R : RelS fr σ s a w) {i id : Nat} {s' : St} (h : claimView i id s = some s') : ∃ σ', RelS fr σ' s' a w := by
  unfold Go.Proofs.YtkadllkeekoopaaGreat.Abs.claimView at h
  split at h
  · exact R.ren h
  · rename_i j hv
    split at h
    case h_2 => cases h
    rename_i e al t xs hT
    obtain ⟨A, cap, hσ, hc, hA, _⟩ := row_read (R.objs j _ hT) (F := fun _ => True) (fun _ _ => trivial) (fun _ _ => trivial)
    have hval : fr.val a i = σ j := (R.env i _ hv).1
    have R1 := R.slot (i := i) (v := .c (.view j 0 xs.length)) ⟨_, A, xs.length, cap, A, cap, hT, hσ, by omega, by rw [hval, hσ], hc, fun _ => ⟨rfl, rfl⟩, fun hpos => by
      rcases hA with rfl | ⟨g, rfl⟩
      · simp at hpos
      · exact ⟨_, rfl, by simp [Addr.add_lit]⟩⟩
    exact R1.ren h
  · cases h
theorem RelS.claimPt (R : RelS fr σ s a w) {i id : Nat} {s' : St} (h : claimPt i id s = some s') : ∃ σ', RelS fr σ' s' a w := by
  unfold Go.Proofs.YtkadllkeekoopaaGreat.Abs.claimPt at h
  split at h
  · exact R.ren h
  · cases h
theorem RelS.claimSlots {objs : List (Nat × OSh)} : ∀ {xs : List (Nat × VSh)} {σ : Nat → Value} {s s' : St}, RelS fr σ s a w → claimSlots objs xs s = some s' → ∃ σ', RelS fr σ' s' a w
  | [], σ, s, s', R, h => by cases h; exact ⟨σ, R⟩
  | (i, x) :: r, σ, s, s', R, h => by
    cases x with
    | c y =>
      cases y with
      | own id =>
        simp only [Go.Proofs.YtkadllkeekoopaaGreat.Abs.claimSlots] at h
        split at h
        · rename_i s1 hs
          obtain ⟨σ1, R1⟩ := R.claimSlot hs
          exact RelS.claimSlots R1 h
        · cases h
      | view id =>
        simp only [Go.Proofs.YtkadllkeekoopaaGreat.Abs.claimSlots] at h
        split at h
        · rename_i s1 hs
          obtain ⟨σ1, R1⟩ := R.claimView hs
          exact RelS.claimSlots R1 h
        · cases h
      | _ => simp only [Go.Proofs.YtkadllkeekoopaaGreat.Abs.claimSlots] at h; exact RelS.claimSlots R h
    | agg xs =>
      simp only [Go.Proofs.YtkadllkeekoopaaGreat.Abs.claimSlots] at h
      split at h
      · rename_i s1 hs
        obtain ⟨σ1, R1⟩ := R.claimAggs hs
        exact RelS.claimSlots R1 h
      · cases h
    | pt id off =>
      simp only [Go.Proofs.YtkadllkeekoopaaGreat.Abs.claimSlots] at h
      split at h
      · rename_i s1 hs
        obtain ⟨σ1, R1⟩ := R.claimPt hs
        exact RelS.claimSlots R1 h
      · cases h
    | _ => simp only [Go.Proofs.YtkadllkeekoopaaGreat.Abs.claimSlots] at h; exact RelS.claimSlots R h
theorem World.grownBy_refl (w : World) (row : Option Nat) : w.grownBy w row := ⟨rfl, rfl, rfl, Nat.le_refl _, fun _ _ _ => rfl⟩
theorem RelS.claimCell (R : RelS fr σ s a w) {objs : List (Nat × OSh)} {b j id : Nat} {s' : St} (h : claimCell objs b j id s = some s') : ∃ σ', RelS fr σ' s' a w := by
  unfold Go.Proofs.YtkadllkeekoopaaGreat.Abs.claimCell at h
  split at h
  case h_2 => cases h
  rename_i ty cs hb
  split at h
  · exact R.ren h
  · rename_i hj
    split at h
    · rename_i e al t _
      obtain ⟨hn, rfl⟩ := newO_some h
      have hne : b ≠ id := fun e' => by
        subst e'
        simp [setO, get_cons] at hn
      have hn' : get s.T id = none := by
        simp only [setO, get_cons, get_del, if_neg hne] at hn
        exact hn
      have h1 : newO id (.row e al t []) s = some ⟨s.env, (id, .row e al t []) :: s.T⟩ := by simp only [newO, hn']
      have R1 := R.new h1 (Below.refl _ w) (v := .slice none 0 0) (by simp [blk]) (nil_row fr σ _ w id e al t)
      have hb1 : get ((id, Obj.row e al t []) :: s.T) b = some (.box ty cs) := by rw [get_cons, if_neg (Ne.symm hne)]; exact hb
      have hbox := R1.objs b _ hb1
      have R2 := R1.set (o' := .box ty (setCs cs j (.own id))) hb1 rfl (World.grownBy_refl w _) (by
        obtain ⟨g, arr, h1, h2, h3, h4⟩ := hbox
        refine ⟨g, arr, h1, h2, h3, ?_⟩
        have hget : ∀ i, (∃ o, get ((id, Obj.row e al t []) :: s.T) i = some o) → ∃ o, get (setO b (.box ty (setCs cs j (.own id))) ⟨s.env, (id, .row e al t []) :: s.T⟩).T i = some o := fun i ⟨o, ho⟩ => by
          simp only [setO, get_cons, get_del] at ho ⊢
          by_cases e1 : b = i
          · simp [e1]
          · simp only [if_neg e1]
            exact ⟨o, ho⟩
        refine setCs_nil (by rw [upd_same]) (hget id ⟨_, by rw [get_cons, if_pos rfl]⟩) (CRs.weak (T := (id, Obj.row e al t []) :: s.T) ?_ ?_ (cs := cs) ?_ h4 ?_) hj
        · intro al' b' hf
          refine ⟨hf.1, fun ⟨i, o', hi, hbl⟩ => hf.2.1 ?_, hf.2.2⟩
          simp only [setO, get_cons, get_del] at hi
          by_cases e1 : b = i
          · subst e1
            exact ⟨b, _, hb1, hbl⟩
          · simp only [if_neg e1] at hi
            exact ⟨i, o', by rw [get_cons]; exact hi, hbl⟩
        · intro i o' hi
          simp only [setO, get_cons, get_del] at hi
          by_cases e1 : b = i
          · subst e1
            simp at hi
            subst hi
            exact ⟨_, hb1, rfl⟩
          · simp only [if_neg e1] at hi
            exact ⟨o', by rw [get_cons]; exact hi, rfl⟩
        · exact (fun cs => by induction cs with
            | nil => exact .nil
            | cons c cs ih => exact .cons (.refl c) ih : ∀ cs : List C, CsWk cs cs) cs
        · have : ∀ {cs : List C} {vs : List Value}, CRs fr (upd σ id (.slice none 0 0)) ((id, Obj.row e al t []) :: s.T) w cs vs → ∀ c ∈ cs, cIn ((id, Obj.row e al t []) :: s.T) c := by
            intro cs
            induction cs with
            | nil => intro _ _ c hc; cases hc
            | cons c cs ih =>
              intro vs h c' hc'
              cases vs with
              | nil => exact h.elim
              | cons v vs =>
                cases hc' with
                | head =>
                  cases c with
                  | own i => exact h.1.2
                  | view i lo len =>
                    obtain ⟨o, _, _, _, _, _, ho, _⟩ := h.1
                    exact ⟨o, ho⟩
                  | _ => trivial
                | tail _ hc' => exact ih h.2 c' hc'
          intro c hc
          have hci := this h4 c hc
          cases c with
          | own i => exact hget i hci
          | view i lo len => exact hget i hci
          | _ => trivial)
      refine ⟨_, R2.congr (T' := (id, Obj.row e al t []) :: (setO b (.box ty (setCs cs j (.own id))) s).T) fun i => ?_⟩
      simp only [setO, get_cons, get_del]
      by_cases e1 : id = i
      · subst e1
        simp [hne]
      · by_cases e2 : b = i
        · simp [e1, e2]
        · simp [e1, e2]
    · cases h
  · cases h
theorem RelS.claimCells {objs : List (Nat × OSh)} {b : Nat} : ∀ {xs : List Sh} {j : Nat} {σ : Nat → Value} {s s' : St}, RelS fr σ s a w → claimCells objs b j xs s = some s' → ∃ σ', RelS fr σ' s' a w
  | [], _, σ, s, s', R, h => by cases h; exact ⟨σ, R⟩
  | x :: r, j, σ, s, s', R, h => by
    cases x with
    | own id =>
      simp only [Go.Proofs.YtkadllkeekoopaaGreat.Abs.claimCells] at h
      split at h
      · rename_i s1 hs
        obtain ⟨σ1, R1⟩ := R.claimCell hs
        exact RelS.claimCells R1 h
      · cases h
    | _ => simp only [Go.Proofs.YtkadllkeekoopaaGreat.Abs.claimCells] at h; exact RelS.claimCells R h
theorem RelS.claimBoxes {objs : List (Nat × OSh)} : ∀ {xs : List (Nat × OSh)} {σ : Nat → Value} {s s' : St}, RelS fr σ s a w → claimBoxes objs xs s = some s' → ∃ σ', RelS fr σ' s' a w
  | [], σ, s, s', R, h => by cases h; exact ⟨σ, R⟩
  | (i, x) :: r, σ, s, s', R, h => by
    cases x with
    | box ty xs =>
      simp only [Go.Proofs.YtkadllkeekoopaaGreat.Abs.claimBoxes] at h
      split at h
      · rename_i s1 hs
        obtain ⟨σ1, R1⟩ := R.claimCells hs
        exact RelS.claimBoxes R1 h
      · cases h
    | _ => simp only [Go.Proofs.YtkadllkeekoopaaGreat.Abs.claimBoxes] at h; exact RelS.claimBoxes R h
/-- At a seam. -/
theorem RelS.enter (R : RelS fr σ s a w) {d : Desc} {z : d.X} (h : enter d s = some z) : ∃ σ', RelS fr σ' (unpack d z) a w := by
  unfold Go.Proofs.YtkadllkeekoopaaGreat.Abs.enter at h
  rcases ble_of h with ⟨_, h⟩ | ⟨hc, h⟩
  · cases h
  · split at h
    case h_2 => cases h
    rename_i s1 h1
    split at h
    case h_2 => cases h
    rename_i s2 h2
    split at h
    case h_2 => cases h
    rename_i s3 h3
    obtain ⟨σ1, R1⟩ := R.claimSlots h1
    obtain ⟨σ2, R2⟩ := R1.claimBoxes h2
    exact ⟨σ2, (R2.freezeAll h3).pack (by simpa using hc) h⟩
end
end Go.Proofs.YtkadllkeekoopaaGreat.Abs
end

section
namespace Go.Proofs.YtkadllkeekoopaaGreat.Abs
open Go.RowKit

/-! ## Lists of cells -/
section
variable {fr : Fr} {σ : Nat → Value} {T : Tab} {w : World}
theorem CRs.len : ∀ {cs : List C} {vs : List Value}, CRs fr σ T w cs vs → vs.length = cs.length
  | [], [], _ => rfl
  | [], _ :: _, h => h.elim
  | _ :: _, [], h => h.elim
  | _ :: _, _ :: _, h => congrArg (· + 1) (CRs.len h.2)
theorem CRs.app : ∀ {cs ds : List C} {vs us : List Value}, CRs fr σ T w cs vs → CRs fr σ T w ds us → CRs fr σ T w (cs ++ ds) (vs ++ us)
  | [], _, [], _, _, h => h
  | [], _, _ :: _, _, h, _ => h.elim
  | _ :: _, _, [], _, h, _ => h.elim
  | _ :: _, _, _ :: _, _, h, k => ⟨h.1, CRs.app h.2 k⟩
theorem CRs.drop : ∀ {cs : List C} {vs : List Value} (n : Nat), CRs fr σ T w cs vs → CRs fr σ T w (cs.drop n) (vs.drop n)
  | _, _, 0, h => h
  | [], [], _ + 1, h => h
  | [], _ :: _, _ + 1, h => h.elim
  | _ :: _, [], _ + 1, h => h.elim
  | _ :: _, _ :: _, n + 1, h => CRs.drop n h.2
theorem CRs.take : ∀ {cs : List C} {vs : List Value} (n : Nat), CRs fr σ T w cs vs → CRs fr σ T w (cs.take n) (vs.take n)
  | _, _, 0, _ => trivial
  | [], [], _ + 1, h => h
  | [], _ :: _, _ + 1, h => h.elim
  | _ :: _, [], _ + 1, h => h.elim
  | _ :: _, _ :: _, n + 1, h => ⟨h.1, CRs.take n h.2⟩
theorem CRs.at : ∀ {cs : List C} {vs : List Value}, CRs fr σ T w cs vs → ∀ {j : Nat} {c : C}, cs[j]? = some c → ∃ v, vs[j]? = some v ∧ CR fr σ T w c v
  | [], _, _, j, c, hj => by simp at hj
  | _ :: _, [], h, _, _, _ => h.elim
  | c :: _, v :: _, h, 0, _, hj => by
    simp at hj
    subst hj
    exact ⟨v, rfl, h.1⟩
  | _ :: _, _ :: _, h, j + 1, _, hj => by simpa using CRs.at h.2 (j := j) (by simpa using hj)
theorem CRs.of_pts {p : Nat → Value → Prop} : ∀ {cs : List C} (k : Nat), (∀ j c, cs[j]? = some c → ∃ u, p (k + j) u ∧ CR fr σ T w c u) → ∃ vs, CRs fr σ T w cs vs ∧ ∀ j u, vs[j]? = some u → p (k + j) u
  | [], _, _ => ⟨[], trivial, fun j u h => by simp at h⟩
  | c :: cs, k, h => by
    obtain ⟨u, hu, hc⟩ := h 0 c rfl
    obtain ⟨vs, hv, hp⟩ := CRs.of_pts (p := p) (cs := cs) (k + 1) (fun j c hj => by
      obtain ⟨u, hu, hc⟩ := h (j + 1) c (by simpa using hj)
      exact ⟨u, by rw [show k + 1 + j = k + (j + 1) by omega]; exact hu, hc⟩)
    refine ⟨u :: vs, ⟨hc, hv⟩, fun j x hj => ?_⟩
    cases j with
    | zero =>
      simp at hj
      subst hj
      exact hu
    | succ j =>
      rw [show k + (j + 1) = k + 1 + j by omega]
      exact hp j x (by simpa using hj)
theorem CRs.at2 {cs : List C} {vs : List Value} (h : CRs fr σ T w cs vs) {j : Nat} {v : Value} (hj : vs[j]? = some v) : ∃ c, cs[j]? = some c ∧ CR fr σ T w c v := by
  have hl := CRs.len h
  have hlt : j < cs.length := by
    rw [← hl]
    exact (List.getElem?_eq_some_iff.1 hj).1
  obtain ⟨v', hv', hc⟩ := CRs.at h (List.getElem?_eq_getElem hlt)
  rw [hj] at hv'
  cases hv'
  exact ⟨_, List.getElem?_eq_getElem hlt, hc⟩

theorem range_flat_len {β : Type} (f : Nat → List β) (k : Nat) (hf : ∀ i, (f i).length = k) : ∀ n, ((List.range n).flatMap f).length = n * k
  | 0 => by simp
  | n + 1 => by
    rw [List.range_succ, List.flatMap_append, List.length_append, range_flat_len f k hf n, Nat.add_mul]
    simp [hf]

/-- A value's cells, as they lie. -/
theorem CRs.flat {al : Bool} : ∀ (t : Ty) (x : t.den) (cs : List Value), KF w (Foot fr σ T w al) t x cs → CRs fr σ T w (flat al t x) cs
  | .int _, _, _, h => by rw [show _ = [_] from h]; exact ⟨rfl, trivial⟩
  | .bool, _, _, h => by rw [show _ = [_] from h]; exact ⟨rfl, trivial⟩
  | .str, _, _, ⟨s, h, hs⟩ => by rw [h]; exact ⟨⟨s, rfl, hs⟩, trivial⟩
  | .unit, _, _, h => by rw [show _ = [] from h]; exact trivial
  | .sl t, xs, cs, h => by
    have h' := h
    obtain ⟨A, c, hc, _⟩ := h
    rw [hc] at h' ⊢
    exact ⟨h', trivial⟩
  | .arr n t, xs, cs, ⟨h1, h2, h3⟩ => by
    have key : ∀ m, m ≤ n → CRs fr σ T w ((List.range m).flatMap fun i => Go.Proofs.YtkadllkeekoopaaGreat.Abs.flat al t (xs.getD i t.zero)) (cs.take (m * t.size)) := fun m => by
      induction m with
      | zero => intro _; simp; exact trivial
      | succ m ih =>
        intro hm
        have hlt : m < xs.length := by omega
        have hk := CRs.flat t _ _ (h3 m (xs.getD m t.zero) (by rw [List.getElem?_eq_getElem hlt]; simp [List.getD, hlt]))
        have := CRs.app (ih (by omega)) hk
        rw [List.range_succ, List.flatMap_append, Nat.add_mul, Nat.one_mul, List.take_add]
        simpa using this
    have := key n (Nat.le_refl n)
    rw [List.take_of_length_le (by omega)] at this
    exact this
  | .pair a b, x, cs, ⟨c0, c1, h, h0, h1⟩ => by
    rw [h]
    exact CRs.app (CRs.flat a x.1 c0 h0) (CRs.flat b x.2 c1 h1)

/-! ## Cells read as a value -/
/-- The blocks that cells lead to. -/
def Reach (fr : Fr) (σ : Nat → Value) (T : Tab) (w : World) (cs : List C) (b : Nat) : Prop := Foot fr σ T w (alOf T cs) b ∨ ∃ id ∈ idsOf cs, ∃ o, get T id = some o ∧ blk (σ id) = some b
theorem Foot.up {al al' : Bool} {b : Nat} (h : al = true → al' = true) (hf : Foot fr σ T w al b) : Foot fr σ T w al' b := ⟨hf.1, hf.2.1, hf.2.2.imp (fun h => h) (fun k => ⟨h k.1, k.2⟩)⟩
end

section
variable {fr : Fr} {σ : Nat → Value} {s : St} {a : Act} {w : World}
theorem cont_spec (R : RelS fr σ s a w) {t : Ty} {c : C} {xs : List t.den} (h : cont s.T t c = some xs) {v : Value} (hv : CR fr σ s.T w c v) : KF w (Reach fr σ s.T w [c]) (.sl t) xs [v] := by
  cases c with
  | sl al u ys =>
    obtain ⟨rfl, hx⟩ := asL_some h
    have hx : xs = ys := hx
    subst hx
    refine KF.imp (fun b hb => ⟨.inl (Foot.up (fun h => ?_) hb), rfl⟩) (.sl _) xs [v] hv
    simp [alOf, h]
  | nil =>
    simp only [cont] at h
    cases h
    rw [show v = _ from hv]
    exact ⟨none, 0, rfl, Nat.le_refl _, .inl rfl⟩
  | own id =>
    obtain ⟨rfl, o, ho⟩ := hv
    simp only [cont, ho] at h
    cases o with
    | row e al u ys =>
      obtain ⟨rfl, hx⟩ := asL_some h
      have hx : xs = ys := hx
      subst hx
      refine row_whole (R.objs id _ ho) (fun b hb => .inl (Foot.up (fun h => ?_) hb)) (fun b hb => .inr ⟨id, by simp [idsOf], _, ho, hb⟩)
      simp [alOf, ho, h]
    | win al u ys => exact (R.objs id _ ho).elim
    | box _ _ => cases h
    | arr _ _ _ _ => cases h
    | iter _ _ => cases h
  | view id lo len =>
    have hv' := hv
    obtain ⟨o, _, _, _, _, _, ho, _⟩ := hv
    simp only [cont, ho] at h
    cases o with
    | row e al u ys =>
      change (asL t u ys).map _ = some xs at h
      cases hy : asL t u ys with
      | none => rw [hy] at h; cases h
      | some zs =>
        rw [hy] at h
        cases h
        obtain ⟨rfl, hx⟩ := asL_some hy
        have hx : zs = ys := hx
        subst hx
        refine (row_part (R.objs id _ ho) (fun b hb => .inl (Foot.up (fun h => ?_) hb)) (fun b hb => .inr ⟨id, by simp [idsOf], _, ho, hb⟩) ho hv').2
        simp [alOf, ho, h]
    | win al u ys => exact (R.objs id _ ho).elim
    | box _ _ => cases h
    | arr _ _ _ _ => cases h
    | iter _ _ => cases h
  | _ => simp [cont] at h
theorem Reach.cons {T : Tab} {c : C} {cs : List C} {b : Nat} (h : Reach fr σ T w [c] b ∨ Reach fr σ T w cs b) : Reach fr σ T w (c :: cs) b := by
  have halc : alOf T [c] = true → alOf T (c :: cs) = true := by cases c <;> simp [alOf] <;> intro h <;> simp [h]
  have hals : alOf T cs = true → alOf T (c :: cs) = true := by cases c <;> simp [alOf] <;> intro h <;> simp [h]
  have hidc : ∀ i, i ∈ idsOf [c] → i ∈ idsOf (c :: cs) := by cases c <;> simp [idsOf]
  have hids : ∀ i, i ∈ idsOf cs → i ∈ idsOf (c :: cs) := by cases c <;> simp [idsOf] <;> intro i h <;> exact .inr h
  rcases h with (h | ⟨i, hi, h⟩) | (h | ⟨i, hi, h⟩)
  · exact .inl (h.up halc)
  · exact .inr ⟨i, hidc i hi, h⟩
  · exact .inl (h.up hals)
  · exact .inr ⟨i, hids i hi, h⟩
theorem Reach.suffix {T : Tab} {b : Nat} : ∀ {pre cs : List C}, Reach fr σ T w cs b → Reach fr σ T w (pre ++ cs) b
  | [], _, h => h
  | _ :: pre, _, h => Reach.cons (.inr (Reach.suffix (pre := pre) h))

theorem unflat_spec (R : RelS fr σ s a w) : ∀ (t : Ty) (cs : List C) (x : t.den) (r : List C), unflat s.T t cs = some (x, r) → ∀ (vs : List Value), CRs fr σ s.T w cs vs →
    (∃ pre, cs = pre ++ r) ∧ ∃ v1 v2, vs = v1 ++ v2 ∧ KF w (Reach fr σ s.T w cs) t x v1 ∧ CRs fr σ s.T w r v2
  | .int k, cs, x, r, h, vs, hv => by
    cases cs with
    | nil => simp [unflat] at h
    | cons c cs =>
      cases c <;> simp only [unflat] at h <;> try cases h
      split at h
      · rename_i e
        subst e
        cases h
        cases vs with
        | nil => exact hv.elim
        | cons v vs => exact ⟨⟨[_], rfl⟩, [v], vs, rfl, by rw [show v = _ from hv.1]; rfl, hv.2⟩
      · cases h
  | .bool, cs, x, r, h, vs, hv => by
    cases cs with
    | nil => simp [unflat] at h
    | cons c cs =>
      cases c <;> simp only [unflat] at h <;> try cases h
      cases vs with
      | nil => exact hv.elim
      | cons v vs => exact ⟨⟨[_], rfl⟩, [v], vs, rfl, by rw [show v = _ from hv.1]; rfl, hv.2⟩
  | .str, cs, x, r, h, vs, hv => by
    cases cs with
    | nil => simp [unflat] at h
    | cons c cs =>
      cases c <;> simp only [unflat] at h <;> try cases h
      cases vs with
      | nil => exact hv.elim
      | cons v vs =>
        obtain ⟨bs, hb, hs⟩ := hv.1
        exact ⟨⟨[_], rfl⟩, [v], vs, rfl, ⟨bs, by rw [hb], hs⟩, hv.2⟩
  | .unit, cs, x, r, h, vs, hv => by
    simp only [unflat] at h
    cases h
    exact ⟨⟨[], rfl⟩, [], vs, rfl, rfl, hv⟩
  | .sl t, cs, x, r, h, vs, hv => by
    cases cs with
    | nil => simp [unflat] at h
    | cons c cs =>
      simp only [unflat] at h
      split at h
      · rename_i xs hx
        cases h
        cases vs with
        | nil => exact hv.elim
        | cons v vs =>
          refine ⟨⟨[_], rfl⟩, [v], vs, rfl, ?_, hv.2⟩
          exact KF.imp (fun b hb => ⟨Reach.cons (.inl hb), rfl⟩) (.sl t) _ [v] (cont_spec R hx hv.1)
      · cases h
  | .arr n t, cs, x, r, h, vs, hv => by
    have key : ∀ n (cs : List C) (x : List t.den) (r : List C), repM (unflat s.T t) n cs = some (x, r) → ∀ vs, CRs fr σ s.T w cs vs →
        (∃ pre, cs = pre ++ r) ∧ ∃ v1 v2, vs = v1 ++ v2 ∧ KF w (Reach fr σ s.T w cs) (.arr n t) x v1 ∧ CRs fr σ s.T w r v2 := fun n => by
      induction n with
      | zero =>
        intro cs x r h vs hv
        simp only [repM] at h
        cases h
        exact ⟨⟨[], rfl⟩, [], vs, rfl, ⟨rfl, by simp, fun i x hi => by simp at hi⟩, hv⟩
      | succ n ih =>
        intro cs x r h vs hv
        simp only [repM] at h
        split at h
        · rename_i y r1 h1
          split at h
          · rename_i ys r2 h2
            cases h
            obtain ⟨⟨pre, hp⟩, v1, v2, rfl, hk, hr⟩ := unflat_spec R t cs y r1 h1 vs hv
            obtain ⟨⟨pre2, hp2⟩, v3, v4, rfl, hk2, hr2⟩ := ih r1 ys r h2 v2 hr
            refine ⟨⟨pre ++ pre2, by rw [hp, hp2, List.append_assoc]⟩, v1 ++ v3, v4, by rw [List.append_assoc], ⟨by simp [hk2.1], ?_, ?_⟩, hr2⟩
            · rw [List.length_append, KF.len t y v1 hk, hk2.2.1, Nat.add_mul]; omega
            · intro i z hi
              have hl := KF.len t y v1 hk
              cases i with
              | zero =>
                simp at hi
                subst hi
                simp only [Nat.zero_mul, List.drop_zero]
                rw [← hl, List.take_left]
                exact hk
              | succ i =>
                have := hk2.2.2 i z (by simpa using hi)
                have e1 : (i + 1) * t.size = v1.length + i * t.size := by rw [hl, Nat.add_mul]; omega
                rw [e1, List.drop_append, List.drop_of_length_le (by omega), Nat.add_sub_cancel_left, List.nil_append]
                exact KF.imp (fun b hb => ⟨by rw [hp]; exact Reach.suffix hb, rfl⟩) t z _ this
          · cases h
        · cases h
    exact key n cs x r h vs hv
  | .pair p q, cs, x, r, h, vs, hv => by
    simp only [unflat] at h
    split at h
    · rename_i y r1 h1
      split at h
      · rename_i z r2 h2
        cases h
        obtain ⟨⟨pre, hp⟩, v1, v2, rfl, hk, hr⟩ := unflat_spec R p cs y r1 h1 vs hv
        obtain ⟨⟨pre2, hp2⟩, v3, v4, rfl, hk2, hr2⟩ := unflat_spec R q r1 z r h2 v2 hr
        refine ⟨⟨pre ++ pre2, by rw [hp, hp2, List.append_assoc]⟩, v1 ++ v3, v4, by rw [List.append_assoc], ⟨v1, v3, rfl, hk, ?_⟩, hr2⟩
        refine KF.imp (fun b hb => ⟨?_, rfl⟩) q _ _ hk2
        rw [hp]
        exact Reach.suffix hb
      · cases h
    · cases h
end
end Go.Proofs.YtkadllkeekoopaaGreat.Abs
end

section
namespace Go.Proofs.YtkadllkeekoopaaGreat.Abs
open Go.RowKit

/-! ## What is known of the program is right -/
noncomputable def aggD : TypeDesc → Bool
  | .struct _ => true
  | .array _ _ => true
  | _ => false
/-- Cells that are a type's zero; what is left of them. -/
noncomputable def zRep (f : List Value → Option (List Value)) : Nat → List Value → Option (List Value)
  | 0, l => some l
  | n + 1, l => match f l with
    | some r => zRep f n r
    | none => none
noncomputable def zOk : Ty → List Value → Option (List Value)
  | .int k, .int k' n :: r => bif decide (k = k') && decide (n = 0) then some r else none
  | .bool, .bool b :: r => bif b then none else some r
  | .str, .string s :: r => bif Nat.beq s.data.toList.length 0 then some r else none
  | .unit, r => some r
  | .sl _, .slice none 0 0 :: r => some r
  | .arr n t, r => zRep (zOk t) n r
  | .pair a b, r => match zOk a r with
    | some r' => zOk b r'
    | none => none
  | _, _ => none
noncomputable def fieldsB (P : Program) (tot : Nat) : List (Nat × Nat × Bool) → List Field → Bool
  | [], [] => true
  | (o, n, g) :: r, f :: fs => (match P.info? f.type, P.underlying f.type with
      | some i, some d => Nat.beq f.offset o && Nat.beq i.size n && Nat.blt 0 n && (aggD d == g) && Nat.ble (o + n) tot
      | _, _ => false) && fieldsB P tot r fs
  | _, _ => false
noncomputable def descB (P : Program) (i : TI) (τ : Ty) : TypeDesc → Bool
  | .struct fs => i.agg && i.elem.isNone && fieldsB P τ.size i.fields fs.toList
  | .bool => (match τ with | .bool => true | _ => false) && !i.agg && i.fields.isEmpty
  | .int k => (match τ with | .int k' => decide (k = k') | _ => false) && !i.agg && i.fields.isEmpty
  | .string => (match τ with | .str => true | _ => false) && !i.agg && i.fields.isEmpty
  | .slice e => (match τ with | .sl _ => true | _ => false) && !i.agg && i.fields.isEmpty && (match i.elem with | some e' => Nat.beq e e' | none => false)
  | .array n e => (match τ with | .arr m u => Nat.beq n m && (match P.info? e with | some j => Nat.beq j.size u.size | none => false) | _ => false) && i.agg && i.fields.isEmpty && (match i.elem with | some e' => Nat.beq e e' | none => false)
  | _ => false
noncomputable def kindB (P : Program) (t : TypeId) : Ty → Bool
  | .int k => (match P.underlying t with | some (.int k') => decide (k = k') | _ => false)
  | .bool => (match P.underlying t with | some .bool => true | _ => false)
  | .str => (match P.underlying t with | some .string => true | _ => false)
  | _ => false
noncomputable def flatF (P : Program) : Nat → List Ty → List Field → Bool
  | _, [], [] => true
  | i, k :: l, f :: fs => !(f.name == "_") && Nat.beq f.offset i && kindB P f.type k && flatF P (i + 1) l fs
  | _, _, _ => false
/-- Structs of whole numbers, bools and strings, and arrays of whole numbers. -/
noncomputable def feqB (P : Program) (t : TypeId) (l : List Ty) : Bool := (match P.underlying t with
  | some (.struct fs) => flatF P 0 l fs.toList && !P.stoodInHeld t
  | _ => false) && !P.eqGuardType P.depth t
noncomputable def aeqB (P : Program) (t : TypeId) (k : IntKind) : Bool := (match P.underlying t with
  | some (.array _ e) => kindB P e (.int k) && Nat.beq (P.cellsOf e) 1 && (P.info? e).isSome
  | _ => false) && !P.eqGuardType P.depth t
noncomputable def tiB (P : Program) (t : TypeId) (i : TI) : Bool := match i.ty with
  | none => false
  | some τ => match P.info? t, P.underlying t with
    | some f, some d => Nat.beq f.size τ.size && Nat.beq f.bytes i.bytes && (match f.zero with
        | some z => (match zOk τ z.cells.toList with | some [] => true | _ => false)
        | none => false) && descB P i τ d && (match i.feq with
        | some l => feqB P t l
        | none => true) && (match i.aeq with
        | some k => aeqB P t k
        | none => true)
    | _, _ => false
noncomputable def tisB (P : Program) (l : List (Nat × TI)) : Bool := l.all fun x => tiB P x.1 x.2

/-- The cells of a zero. -/
structure Zero (τ : Ty) (cs : List Value) : Prop where
  kf : ∀ (w : World) (F : Nat → Prop), KF w F τ τ.zero cs
  crs : ∀ (fr : Fr) (σ : Nat → Value) (T : Tab) (w : World), CRs fr σ T w (zeroC τ) cs
theorem zOk_spec : ∀ (τ : Ty) (l r : List Value), zOk τ l = some r → ∃ pre, l = pre ++ r ∧ Zero τ pre
  | .int k, l, r, h => by
    cases l with
    | nil => simp [zOk] at h
    | cons v l =>
      cases v <;> simp only [zOk] at h <;> try cases h
      rename_i k' n
      rcases ble_of h with ⟨h0, h'⟩ | ⟨_, h'⟩
      · cases h'
        simp only [Bool.and_eq_true, decide_eq_true_eq] at h0
        obtain ⟨rfl, rfl⟩ := h0
        exact ⟨[_], rfl, fun _ _ => rfl, fun _ _ _ _ => ⟨rfl, trivial⟩⟩
      · cases h'
  | .bool, l, r, h => by
    cases l with
    | nil => simp [zOk] at h
    | cons v l =>
      cases v <;> simp only [zOk] at h <;> try cases h
      rename_i b
      cases b with
      | true => cases h
      | false =>
        cases h
        exact ⟨[_], rfl, fun _ _ => rfl, fun _ _ _ _ => ⟨rfl, trivial⟩⟩
  | .str, l, r, h => by
    cases l with
    | nil => simp [zOk] at h
    | cons v l =>
      cases v <;> simp only [zOk] at h <;> try cases h
      rename_i s
      rcases ble_of h with ⟨h0, h'⟩ | ⟨_, h'⟩
      · cases h'
        have h1 := List.eq_nil_of_length_eq_zero (Nat.eq_of_beq_eq_true h0)
        exact ⟨[_], rfl, fun _ _ => ⟨s, rfl, h1⟩, fun _ _ _ _ => ⟨⟨s, rfl, h1⟩, trivial⟩⟩
      · cases h'
  | .unit, l, r, h => by
    simp only [zOk] at h
    cases h
    exact ⟨[], rfl, fun _ _ => rfl, fun _ _ _ _ => trivial⟩
  | .sl t, l, r, h => by
    cases l with
    | nil => simp [zOk] at h
    | cons v l =>
      cases v with
      | slice A n c =>
        cases A with
        | some _ => simp [zOk] at h
        | none =>
          cases n with
          | succ _ => simp [zOk] at h
          | zero =>
            cases c with
            | succ _ => simp [zOk] at h
            | zero =>
              simp only [zOk] at h
              cases h
              exact ⟨[_], rfl, fun _ _ => ⟨none, 0, rfl, Nat.le_refl _, .inl rfl⟩, fun _ _ _ _ => ⟨rfl, trivial⟩⟩
      | _ => simp [zOk] at h
  | .arr n t, l, r, h => by
    have key : ∀ n (l r : List Value), zRep (zOk t) n l = some r → ∃ pre, l = pre ++ r ∧ Zero (.arr n t) pre := fun n => by
      induction n with
      | zero =>
        intro l r h
        simp only [zRep] at h
        cases h
        exact ⟨[], rfl, fun _ _ => ⟨rfl, by simp, fun i x hi => by simp [Ty.zero] at hi⟩, fun _ _ _ _ => trivial⟩
      | succ n ih =>
        intro l r h
        simp only [zRep] at h
        split at h
        case h_2 => cases h
        rename_i r1 h1
        obtain ⟨p1, rfl, z1⟩ := zOk_spec t l r1 h1
        obtain ⟨p2, rfl, z2⟩ := ih r1 r h
        refine ⟨p1 ++ p2, by rw [List.append_assoc], fun w F => ?_, fun fr σ T w => ?_⟩
        · have k1 := z1.kf w F
          have k2 := z2.kf w F
          have hl := KF.len t _ _ k1
          refine ⟨by simp [Ty.zero], ?_, fun i x hi => ?_⟩
          · rw [List.length_append, hl, k2.2.1, Nat.add_mul]; omega
          · have hx : x = t.zero := by
              have hi' : (List.replicate (n + 1) t.zero)[i]? = some x := hi
              rw [List.getElem?_replicate] at hi'
              split at hi'
              · cases hi'; rfl
              · cases hi'
            subst hx
            cases i with
            | zero =>
              simp only [Nat.zero_mul, List.drop_zero]
              rw [← hl, List.take_left]
              exact k1
            | succ i =>
              have hi' : (List.replicate n t.zero)[i]? = some t.zero := by
                have hi' : (List.replicate (n + 1) t.zero)[i + 1]? = some t.zero := hi
                rw [List.replicate_succ, List.getElem?_cons_succ] at hi'
                exact hi'
              have := k2.2.2 i t.zero hi'
              have e1 : (i + 1) * t.size = p1.length + i * t.size := by rw [hl, Nat.add_mul]; omega
              rw [e1, List.drop_append, List.drop_of_length_le (by omega), Nat.add_sub_cancel_left, List.nil_append]
              exact this
        · have c1 := z1.crs fr σ T w
          have c2 := z2.crs fr σ T w
          show CRs fr σ T w ((List.replicate (n + 1) ()).flatMap fun _ => zeroC t) _
          rw [List.replicate_succ, List.flatMap_cons]
          exact CRs.app c1 c2
    exact key n l r h
  | .pair a b, l, r, h => by
    simp only [zOk] at h
    split at h
    case h_2 => cases h
    rename_i r1 h1
    obtain ⟨p1, rfl, z1⟩ := zOk_spec a l r1 h1
    obtain ⟨p2, rfl, z2⟩ := zOk_spec b r1 r h
    exact ⟨p1 ++ p2, by rw [List.append_assoc], fun w F => ⟨p1, p2, rfl, z1.kf w F, z2.kf w F⟩, fun fr σ T w => CRs.app (z1.crs fr σ T w) (z2.crs fr σ T w)⟩

structure FieldOk (P : Program) (tot : Nat) (x : Nat × Nat × Bool) (f : Field) : Prop where
  ex : ∃ i d, P.info? f.type = some i ∧ P.underlying f.type = some d ∧ f.offset = x.1 ∧ i.size = x.2.1 ∧ 0 < x.2.1 ∧ aggD d = x.2.2 ∧ x.1 + x.2.1 ≤ tot
theorem fieldsB_spec {P : Program} {tot : Nat} : ∀ {l : List (Nat × Nat × Bool)} {fs : List Field}, fieldsB P tot l fs = true → l.length = fs.length ∧ ∀ (j : Nat) (x : Nat × Nat × Bool), l[j]? = some x → ∃ f, fs[j]? = some f ∧ FieldOk P tot x f
  | [], [], _ => ⟨rfl, fun j x h => by simp at h⟩
  | [], _ :: _, h => by cases h
  | _ :: _, [], h => by cases h
  | (o, n, g) :: r, f :: fs, h => by
    simp only [fieldsB, Bool.and_eq_true] at h
    obtain ⟨h1, h2⟩ := h
    have ih := fieldsB_spec h2
    refine ⟨congrArg (· + 1) ih.1, fun j x hj => ?_⟩
    cases j with
    | zero =>
      simp at hj
      subst hj
      refine ⟨f, rfl, ?_⟩
      split at h1
      · rename_i i d hi hd
        simp only [Bool.and_eq_true, beq_iff_eq] at h1
        obtain ⟨⟨⟨⟨a1, a2⟩, a3⟩, a4⟩, a5⟩ := h1
        exact ⟨i, d, hi, hd, Nat.eq_of_beq_eq_true a1, Nat.eq_of_beq_eq_true a2, Nat.blt_eq.mp a3, a4, Nat.le_of_ble_eq_true a5⟩
      · cases h1
    | succ j =>
      obtain ⟨f', hf, hk⟩ := ih.2 j x (by simpa using hj)
      exact ⟨f', by simpa using hf, hk⟩

/-- A type of the table. -/
structure TyOk (P : Program) (t : TypeId) (i : TI) (τ : Ty) : Prop where
  ex : ∃ f d z, P.info? t = some f ∧ P.underlying t = some d ∧ f.size = τ.size ∧ f.bytes = i.bytes ∧ f.zero = some z ∧ Zero τ z.cells.toList ∧ descB P i τ d = true
  feq : ∀ l, i.feq = some l → feqB P t l = true
  aeq : ∀ k, i.aeq = some k → aeqB P t k = true
theorem tiB_spec {P : Program} {t : TypeId} {i : TI} (h : tiB P t i = true) : ∃ τ, i.ty = some τ ∧ TyOk P t i τ := by
  unfold tiB at h
  split at h
  · cases h
  · rename_i τ hτ
    split at h
    · rename_i f d hf hd
      simp only [Bool.and_eq_true] at h
      obtain ⟨⟨⟨⟨⟨h1, h2⟩, h3⟩, h4⟩, h5⟩, h6⟩ := h
      refine ⟨τ, hτ, ⟨f, d, ?_⟩, fun l hf => (by rw [hf] at h5; exact h5), fun l hf => (by rw [hf] at h6; exact h6)⟩
      split at h3
      · rename_i z hz
        split at h3
        · rename_i hzz
          obtain ⟨pre, hp, hZ⟩ := zOk_spec τ _ _ hzz
          rw [List.append_nil] at hp
          rw [← hp] at hZ
          exact ⟨z, hf, hd, Nat.eq_of_beq_eq_true h1, Nat.eq_of_beq_eq_true h2, hz, hZ, h4⟩
        · cases h3
      · cases h3
    · cases h
/-- The table is right. -/
def TIs (P : Program) (G : Ctx) : Prop := ∀ t τ, (tiOf G t).ty = some τ → TyOk P t (tiOf G t) τ
theorem TIs.of {P : Program} {G : Ctx} (h : tisB P G.ti = true) : TIs P G := by
  intro t τ ht
  unfold tiOf at ht ⊢
  cases hg : get G.ti t with
  | none => rw [hg] at ht; cases ht
  | some i =>
    rw [hg] at ht
    simp at ht ⊢
    have hm : ∀ (l : List (Nat × TI)), get l t = some i → (t, i) ∈ l := fun l => by
      induction l with
      | nil => intro h; cases h
      | cons p r ih =>
        obtain ⟨k, x⟩ := p
        intro h
        rw [get_cons] at h
        split at h
        · rename_i e
          cases h
          subst e
          exact List.mem_cons_self
        · exact List.mem_cons_of_mem _ (ih h)
    have := (List.all_eq_true.mp h) (t, i) (hm _ hg)
    obtain ⟨τ', h', hk⟩ := tiB_spec this
    rw [ht] at h'
    cases h'
    exact hk

section
variable {P : Program} {G : Ctx}
theorem TyOk.agg {t : TypeId} {i : TI} {τ : Ty} (h : TyOk P t i τ) : ∃ d, P.underlying t = some d ∧ aggD d = i.agg := by
  obtain ⟨f, d, z, _, hd, _, _, _, _, hk⟩ := h.ex
  refine ⟨d, hd, ?_⟩
  cases d <;> simp [descB] at hk <;> simp [aggD, hk]
theorem TyOk.info {t : TypeId} {i : TI} {τ : Ty} (h : TyOk P t i τ) : ∃ f, P.info? t = some f ∧ f.size = τ.size := by
  obtain ⟨f, d, z, hf, _, hs, _⟩ := h.ex
  exact ⟨f, hf, hs⟩
theorem plain_of (H : TIs P G) {t : TypeId} {τ : Ty} (h : plainTy G t = some τ) : TyOk P t (tiOf G t) τ ∧ (tiOf G t).agg = false ∧ ∃ d, P.underlying t = some d ∧ match τ with
    | .int k => d = .int k
    | .bool => d = .bool
    | .str => d = .string
    | .sl _ => ∃ e, d = .slice e ∧ (tiOf G t).elem = some e
    | _ => False := by
  unfold plainTy at h
  rcases ble_of h with ⟨_, h'⟩ | ⟨ha, h'⟩
  · cases h'
  · have hk := H t τ h'
    refine ⟨hk, ha, ?_⟩
    obtain ⟨f, d, z, _, hd, _, _, _, _, hk⟩ := hk.ex
    refine ⟨d, hd, ?_⟩
    cases d <;> simp [descB, ha] at hk
    · split at hk <;> simp_all
    · split at hk <;> simp_all
    · split at hk <;> simp_all
    · obtain ⟨⟨h1, _⟩, h2⟩ := hk
      split at h1
      · split at h2
        · rename_i e' he
          have := Nat.eq_of_beq_eq_true h2
          subst this
          exact ⟨_, rfl, he⟩
        · cases h2
      · cases h1
theorem slE_of (H : TIs P G) {t e : TypeId} {u : Ty} (h : slE G t = some (e, u)) : P.underlying t = some (.slice e) ∧ TyOk P e (tiOf G e) u := by
  unfold slE at h
  split at h
  · rename_i u' e' hp he
    split at h
    · rename_i v hv
      cases h
      obtain ⟨_, _, d, hd, e2, hs, he2⟩ := plain_of H hp
      rw [he] at he2
      cases he2
      exact ⟨by rw [hd, hs], H _ _ hv⟩
    · cases h
  · cases h
theorem arE_of (H : TIs P G) {t : TypeId} {n : Nat} {u : Ty} (h : arE G t = some (n, u)) : ∃ e j, P.underlying t = some (.array n e) ∧ P.info? e = some j ∧ j.size = u.size := by
  unfold arE at h
  split at h
  · rename_i m v e' ht he
    cases h
    obtain ⟨f, d, z, _, hd, _, _, _, _, hk⟩ := (H t _ ht).ex
    cases d <;> simp [descB, he] at hk
    rename_i m e
    obtain ⟨⟨⟨⟨h1, h2⟩, _⟩, _⟩, h3⟩ := hk
    have := h1
    subst this
    split at h2
    · rename_i j hj
      exact ⟨e, j, hd, hj, Nat.eq_of_beq_eq_true h2⟩
    · cases h2
  · cases h
theorem isStrT_of (H : TIs P G) {t : TypeId} (h : isStrT G t = true) : P.underlying t = some .string := by
  unfold isStrT at h
  split at h
  · rename_i hp
    obtain ⟨_, _, d, hd, hs⟩ := plain_of H hp
    rw [hd, hs]
  · cases h
theorem isBytes_of (H : TIs P G) {t : TypeId} (h : isBytes G t = true) : ∃ e, P.underlying t = some (.slice e) ∧ P.underlying e = some (.int .u8) := by
  unfold isBytes at h
  split at h
  · rename_i e u hs
    split at h
    · rename_i hp
      obtain ⟨_, _, d, hd, hk⟩ := plain_of H hp
      exact ⟨e, (slE_of H hs).1, by rw [hd, hk]⟩
    · cases h
  · cases h
theorem eszS_of (H : TIs P G) {t : TypeId} {z : Nat} (h : eszS G t = some z) : ∃ e j, P.underlying t = some (.slice e) ∧ P.info? e = some j ∧ j.size = z := by
  unfold eszS at h
  split at h
  · rename_i e u hs
    cases h
    obtain ⟨h1, h2⟩ := slE_of H hs
    obtain ⟨f, hf, hz⟩ := h2.info
    exact ⟨e, f, h1, hf, hz⟩
  · cases h
theorem eszA_of (H : TIs P G) {t : TypeId} {z : Nat} (h : eszA G t = some z) : ∃ n e j, P.underlying t = some (.array n e) ∧ P.info? e = some j ∧ j.size = z ∧ ∃ u, arE G t = some (n, u) := by
  unfold eszA at h
  split at h
  · rename_i n u hs
    cases h
    obtain ⟨e, j, h1, h2, h3⟩ := arE_of H hs
    exact ⟨n, e, j, h1, h2, h3, u, hs⟩
  · cases h
theorem field_of (H : TIs P G) {t : TypeId} {j : Nat} {x : Nat × Nat × Bool} (h : (tiOf G t).fields[j]? = some x) {τ : Ty} (ht : (tiOf G t).ty = some τ) : ∃ fs f, P.underlying t = some (.struct fs) ∧ fs[j]? = some f ∧ FieldOk P τ.size x f ∧ fs.size = (tiOf G t).fields.length := by
  obtain ⟨f, d, z, _, hd, _, _, _, _, hk⟩ := (H t _ ht).ex
  have hne : (tiOf G t).fields ≠ [] := fun e => by rw [e] at h; simp at h
  cases d <;> simp [descB, hne] at hk
  rename_i fs
  obtain ⟨hl, hf⟩ := fieldsB_spec hk.2
  obtain ⟨g, hg, hok⟩ := hf j x h
  exact ⟨fs, g, hd, by simpa using hg, hok, by simpa using hl.symm⟩
end
end Go.Proofs.YtkadllkeekoopaaGreat.Abs
end
