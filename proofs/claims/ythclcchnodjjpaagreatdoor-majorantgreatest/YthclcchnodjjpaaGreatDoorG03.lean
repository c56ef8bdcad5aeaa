/- A part of the proof: Mc1, Mc2. -/
import Derived.Orders
import Derived.Laws.Entries
/- THE EXECUTABLE SEMANTICS 'T': the kit's own code run over values instead of memory: slices are lists of elements, structs lists of cells, locals a small store. Definitions alone. -/
set_option linter.unusedVariables false
namespace Go.Proofs.YthclcchnodjjpaaGreatDoor
namespace M

/-- What may be done with the room behind a slice: nothing known; there is none; it is ours while the token is at this version. -/
inductive Own where
  | dead | full | tok (n v : Nat)
  deriving DecidableEq

inductive AV where
  | undef
  | bool (b : Bool)
  | int (k : IntKind) (n : Int)
  | agg (cs : List AV)
  | tup (vs : List AV)
  | sl (es : List (List AV)) (o : Own)
  | row (b len : Nat)
  | loc (b off : Nat)
  | rp (cs : List AV)
  | nilp
  | fn (f : Nat) (cs : List AV)
  | nilf
  | iface (t : Nat) (v : AV)
  | nili

structure St where
  σ : List (List AV)
  tk : List Nat

inductive TK where
  | atom
  | ptr
  | struct (fs : List (Nat × Nat))   -- offset, type
  | slice (e : Nat)
  | arr (n e : Nat)
  | iface

structure TI where
  size : Nat
  bytes : Nat
  zero : List AV
  kind : TK

def TI.isAgg (t : TI) : Bool := match t.kind with
  | .struct _ | .arr _ _ => true
  | _ => false

/-- What the semantics asks besides the program: types as it reads them; which pointer types are handed by reference. -/
structure Cx where
  P : Program
  ty : Nat → Option TI
  rf : Nat → Bool
  /-- Parameters of such types may take places and functions; other arguments are none. -/
  tt : Nat → Bool
  /-- A boxed value of such a type is never written again. -/
  im : Nat → Bool
  /-- The loose pairs of a region, of a function; of the function that is run. -/
  lt : Nat → Nat → List (Nat × Nat)
  lz : Nat → List (Nat × Nat)
  /-- Functions whose answers are shown by hand. -/
  ext : Nat → Bool
  /-- Functions that return a place of their own making, which the caller then changes. -/
  mkf : Nat → Bool

/-- For a function's body. -/
def Cx.at (cx : Cx) (f : Nat) : Cx := { cx with lz := cx.lt f }

def AV.cells : AV → List AV
  | .agg cs => cs
  | v => [v]

/-- May lie in one cell. -/
def AV.isCell : AV → Bool
  | .agg _ | .tup _ | .undef => false
  | _ => true

def mk (t : TI) (cs : List AV) : Option AV := if t.isAgg then some (.agg cs) else cs.head?

mutual
/-- Places of the store replaced, and room given up. -/
def mapLoc (g : Nat → Nat → AV) : AV → AV
  | .agg cs => .agg (mapLocs g cs)
  | .tup cs => .tup (mapLocs g cs)
  | .sl es o => .sl (mapLocss g es) .dead
  | .row _ _ => .undef
  | .loc b off => g b off
  | .rp cs => .rp (mapLocs g cs)
  | .fn f cs => .fn f (mapLocs g cs)
  | .iface t v => .iface t (mapLoc g v)
  | v => v
def mapLocs (g : Nat → Nat → AV) : List AV → List AV
  | [] => []
  | v :: vs => mapLoc g v :: mapLocs g vs
def mapLocss (g : Nat → Nat → AV) : List (List AV) → List (List AV)
  | [] => []
  | v :: vs => mapLocs g v :: mapLocss g vs
end

/-- Without places of the store. -/
def dd : AV → AV := mapLoc fun _ _ => .undef

/-- Places of the store from n on as what they hold, for good. -/
def fz (σ : List (List AV)) (n : Nat) : Nat → AV → AV
  | 0 => dd
  | k + 1 => mapLoc fun b off => if b < n then .undef else match σ[b]? with
    | some cs => .rp ((cs.drop off).map (fz σ n k))
    | none => .undef

def AV.isLoc : AV → Bool
  | .loc _ _ => true
  | _ => false

/-! ### Operands and operations -/
def absCells : List Value → Option (List AV)
  | [] => some []
  | .bool b :: r => (absCells r).map (.bool b :: ·)
  | .int k n :: r => (absCells r).map (.int k n :: ·)
  | .slice none 0 0 :: r => (absCells r).map (.sl [] .full :: ·)
  | .pointer none :: r => (absCells r).map (.nilp :: ·)
  | .nilFunc :: r => (absCells r).map (.nilf :: ·)
  | .nilIface :: r => (absCells r).map (.nili :: ·)
  | _ => none

def absV : Value → Option AV
  | .agg cs => (absCells cs.toList).map .agg
  | .bool b => some (.bool b)
  | .int k n => some (.int k n)
  | .slice none 0 0 => some (.sl [] .full)
  | .pointer none => some .nilp
  | .nilFunc => some .nilf
  | .nilIface => some .nili
  | _ => none

abbrev Regs := List AV

/-- The package variables that are read, with what they hold for good. -/
def globs : List (Nat × List AV) := [(0, [.int .i64 0, .int .i64 0, .int .i64 1, .int .i64 2, .int .i64 0, .int .i64 1, .int .i64 3, .int .i64 0, .int .i64 2, .int .i64 3, .int .i64 2, .int .i64 1, .int .i64 1, .int .i64 0])]

def ev (r : Regs) : Operand → Option AV
  | .tmp t => some (r.getD t (.tup []))
  | .const v => absV v
  | .func f => some (.fn f [])
  | .global g => (globs.lookup g).map .rp

def evs (r : Regs) : List Operand → Option (List AV)
  | [] => some []
  | x :: xs => (ev r x).bind fun v => (evs r xs).map (v :: ·)

def evp (r : Regs) : List (Nat × Operand) → Option (List (Nat × AV))
  | [] => some []
  | x :: xs => (ev r x.2).bind fun v => (evp r xs).map ((x.1, v) :: ·)

/-- Some cells replaced. -/
def splice (cs : List AV) (off : Nat) (vs : List AV) : List AV := cs.take off ++ vs ++ cs.drop (off + vs.length)

def loadT (cx : Cx) (S : St) (t : Nat) : AV → Option AV
  | .loc b off => (cx.ty t).bind fun ti => (S.σ[b]?).bind fun cs => if 0 < ti.size ∧ off + ti.size ≤ cs.length then mk ti ((cs.drop off).take ti.size) else none
  | .rp cs => (cx.ty t).bind fun ti => if ti.size ≤ cs.length then mk ti (cs.take ti.size) else none
  | _ => none

def storeT (cx : Cx) (S : St) (t : Nat) (v : AV) : AV → Option St
  | .loc b off => (cx.ty t).bind fun ti => (S.σ[b]?).bind fun cs =>
      if v.cells.length = ti.size ∧ 0 < ti.size ∧ off + ti.size ≤ cs.length ∧ v.cells.all AV.isCell = true then some { S with σ := S.σ.set b (splice cs off v.cells) } else none
  | _ => none

def fillT (place : Nat → Option (Nat × Nat)) (cs : List AV) : List (Nat × AV) → Option (List AV)
  | [] => some cs
  | (i, v) :: r => (place i).bind fun p => if v.cells.length = p.2 ∧ p.1 + p.2 ≤ cs.length ∧ v.cells.all AV.isCell = true then fillT place (splice cs p.1 v.cells) r else none

def fieldOf (cx : Cx) (ti : TI) (i : Nat) : Option (Nat × TI) := match ti.kind with
  | .struct fs => (fs[i]?).bind fun f => (cx.ty f.2).map fun t => (f.1, t)
  | _ => none

def buildT (cx : Cx) (t : Nat) (parts : List (Nat × AV)) : Option AV := (cx.ty t).bind fun ti => match ti.kind with
  | .struct _ => (fillT (fun i => (fieldOf cx ti i).map fun p => (p.1, p.2.size)) ti.zero parts).map .agg
  | .arr _ e => (cx.ty e).bind fun te => (fillT (fun i => some (i * te.size, te.size)) ti.zero parts).map .agg
  | _ => none

def setElems (sz : Nat) (es : List (List AV)) : List (Nat × AV) → Option (List (List AV))
  | [] => some es
  | (i, v) :: r => if v.cells.length = sz ∧ i < es.length ∧ v.cells.all AV.isCell = true then setElems sz (es.set i v.cells) r else none

def buildSliceT (cx : Cx) (t n : Nat) (parts : List (Nat × AV)) : Option AV := (cx.ty t).bind fun ti => match ti.kind with
  | .slice e => (cx.ty e).bind fun te => if n * te.size ≤ 16777216 ∧ 0 < te.size ∧ te.zero.all AV.isCell = true then (setElems te.size (List.replicate n te.zero) parts).map (.sl · .full) else none
  | _ => none

def intOp (op : BinOp) (k : IntKind) (x y : Int) : Option AV := match op with
  | .add => some (.int k (k.wrap (x + y)))
  | .sub => some (.int k (k.wrap (x - y)))
  | .mul => some (.int k (k.wrap (x * y)))
  | .quo => if y = 0 then none else some (.int k (k.wrap (x.tdiv y)))
  | .rem => if y = 0 then none else some (.int k (x.tmod y))
  | .eql => some (.bool (x == y))
  | .neq => some (.bool (x != y))
  | .lss => some (.bool (x < y))
  | .leq => some (.bool (x ≤ y))
  | .gtr => some (.bool (x > y))
  | .geq => some (.bool (x ≥ y))
  | _ => none

def AV.notNil : AV → Option Bool
  | .loc _ _ | .rp _ => some true
  | .nilp => some false
  | _ => none

def isPtr (cx : Cx) (t : Nat) : Bool := match cx.ty t with
  | some ti => match ti.kind with | .ptr => true | _ => false
  | none => false

def nilT (cx : Cx) (op : BinOp) (t : Nat) (v : AV) : Option AV := if isPtr cx t = true then (v.notNil).bind fun b => match op with
  | .eql => some (.bool !b)
  | .neq => some (.bool b)
  | _ => none
  else none

def binT (cx : Cx) (op : BinOp) (t : Nat) (x y : AV) : Option AV := match x, y with
  | .int k a, .int k' b => if k = k' then intOp op k a b else none
  | .nilp, v => nilT cx op t v
  | .loc b o, .nilp => nilT cx op t (.loc b o)
  | .rp cs, .nilp => nilT cx op t (.rp cs)
  | _, _ => none

def intOf : AV → Option Int
  | .int .i64 n => some n
  | _ => none

def natOf (v : AV) (most : Nat) : Option Nat := (intOf v).bind fun n => if 0 ≤ n ∧ n ≤ most then some n.toNat else none

def optNat (v : Option (Option AV)) (d most : Nat) : Option Nat := match v with
  | none => some d
  | some none => none
  | some (some x) => natOf x most

def sliceT (cx : Cx) (t : Nat) (x : AV) (lo hi mx : Option (Option AV)) : Option AV := (cx.ty t).bind fun ti => match ti.kind, x with
  | .slice e, .sl es _ => (cx.ty e).bind fun te => (optNat mx es.length es.length).bind fun m => (optNat hi es.length m).bind fun h => (optNat lo 0 h).bind fun l =>
      if es.all (fun c => c.length == te.size) = false then none else some (.sl ((es.drop l).take (h - l)) (if mx.isSome && m == h then .full else .dead))
  | _, _ => none

def indexAddrT (cx : Cx) (t : Nat) (x i : AV) : Option AV := (cx.ty t).bind fun ti => match ti.kind with
  | .slice e => (cx.ty e).bind fun te => (intOf i).bind fun n => if 0 ≤ n then (match x with
      | .sl es _ => (es[n.toNat]?).bind fun c => if c.length = te.size ∧ 0 < te.size then some (.rp c) else none
      | .row b len => if n.toNat < len then some (.loc b (n.toNat * te.size)) else none
      | _ => none) else none
  | .arr len e => (cx.ty e).bind fun te => (intOf i).bind fun n => if 0 ≤ n ∧ n < len then (match x with
      | .loc b off => some (.loc b (off + n.toNat * te.size))
      | .rp cs => some (.rp (cs.drop (n.toNat * te.size)))
      | _ => none) else none
  | _ => none

def fieldAddrT (cx : Cx) (t : Nat) (x : AV) (f : Nat) : Option AV := (cx.ty t).bind fun ti => (fieldOf cx ti f).bind fun p => if p.2.size = 0 then none else match x with
  | .loc b off => some (.loc b (off + p.1))
  | .rp cs => some (.rp (cs.drop p.1))
  | _ => none

def fieldT (cx : Cx) (t : Nat) (x : AV) (f : Nat) : Option AV := (cx.ty t).bind fun ti => (fieldOf cx ti f).bind fun p => match x with
  | .agg cs => if p.1 + p.2.size ≤ cs.length then mk p.2 ((cs.drop p.1).take p.2.size) else none
  | _ => none

def isIface (cx : Cx) (t : Nat) : Option Bool := (cx.ty t).map fun ti => match ti.kind with | .iface => true | _ => false

def typeAssertT (cx : Cx) (x : AV) (asserted : Nat) (ok : Bool) : Option AV := match isIface cx asserted, x with
  | some false, .iface t v => if t = asserted then some (if ok then .tup [v, .bool true] else v)
      else if ok then (cx.ty asserted).bind fun ti => (mk ti ti.zero).map fun z => .tup [z, .bool false] else none
  | some false, .nili => if ok then (cx.ty asserted).bind fun ti => (mk ti ti.zero).map fun z => .tup [z, .bool false] else none
  | _, _ => none

def appendE (te : TI) (S : St) (es : List (List AV)) (o : Own) (xs : List (List AV)) : Option (AV × St) :=
  if xs = [] then some (.sl es o, S)
  else if (es.length + xs.length) * te.bytes ≤ 70368744177664 ∧ 0 < te.bytes ∧ 0 < te.size ∧ (es ++ xs).all (fun c => c.length == te.size) = true then
    match o with
    | .full => some (.sl (es ++ xs) (.tok S.tk.length 0), { S with tk := S.tk ++ [0] })
    | .tok n v => if S.tk[n]? = some v ∧ es.isEmpty = false then some (.sl (es ++ xs) (.tok n (v + 1)), { S with tk := S.tk.set n (v + 1) }) else none
    | .dead => none
  else none

def appendT (cx : Cx) (S : St) (t : Nat) (s x : AV) : Option (AV × St) := (cx.ty t).bind fun ti => match ti.kind with
  | .slice e => (cx.ty e).bind fun te => match s with
    | .sl es o => match x with
      | .sl xs _ => appendE te S es o xs
      | _ => none
    | _ => none
  | _ => none

def makeSliceT (cx : Cx) (S : St) (t : Nat) (l c : AV) : Option (AV × St) := (cx.ty t).bind fun ti => match ti.kind with
  | .slice e => (cx.ty e).bind fun te => (natOf l 1048576).bind fun n => (natOf c 1048576).bind fun m =>
      if n = m ∧ te.bytes ≤ 1024 ∧ te.zero.all AV.isCell = true then some (.row S.σ.length n, { S with σ := S.σ ++ [(List.replicate n te.zero).flatten] }) else none
  | _ => none

/-- A call, seen from inside: arguments without places but 0, 1, .. (what is handed by reference), the store of these; out come the result and that store. -/
abbrev Oracle := Nat → List AV → List (List AV) → Option (AV × List (List AV))

/-- What is handed over, and what is left: arguments as the callee gets them, the blocks handed by reference, the store without what was given away. -/
structure Over where
  args : List AV
  refs : List Nat
  σ : List (List AV)

/-- A place that is given away: what it holds, for good. -/
def give (σ : List (List AV)) : AV → Option (AV × List (List AV))
  | .loc b off => (σ[b]?).bind fun cs => if cs.isEmpty = true then none else some (.rp ((cs.drop off).map dd), σ.set b [])
  | v => some (dd v, σ)

def gives (σ : List (List AV)) : List AV → Option (List AV × List (List AV))
  | [] => some ([], σ)
  | v :: vs => (give σ v).bind fun r => (gives r.2 vs).map fun q => (r.1 :: q.1, q.2)

/-- One argument of a type; 'refs': the blocks handed by reference so far. -/
def handOne (cx : Cx) (t : Nat) (refs : List Nat) (σ : List (List AV)) (v : AV) : Option (AV × List Nat × List (List AV)) := match v with
  | .loc b off => if cx.tt t = false then none else
    if cx.rf t = true then (if off = 0 ∧ refs.contains b = false then some (.loc refs.length 0, refs ++ [b], σ) else none)
    else (give σ v).map fun r => (r.1, refs, r.2)
  | .fn f cs => if cx.tt t = false then none else (gives σ cs).map fun r => (.fn f r.1, refs, r.2)
  | v => some (dd v, refs, σ)

def hand (cx : Cx) : List Nat → List Nat → List (List AV) → List AV → Option Over
  | _, refs, σ, [] => some ⟨[], refs, σ⟩
  | ts, refs, σ, v :: vs => (handOne cx (ts.headD 0) refs σ v).bind fun r => (hand cx ts.tail r.2.1 r.2.2 vs).map fun o => { o with args := r.1 :: o.args }

/-- The blocks handed by reference, as they came back. -/
def putBack (σ : List (List AV)) : List Nat → List (List AV) → List (List AV)
  | b :: bs, cs :: css => putBack (σ.set b cs) bs css
  | _, _ => σ

def callT (cx : Cx) (C : Oracle) (S : St) (f : Nat) (args : List AV) : Option (AV × St) := (cx.P.funcs[f]?).bind fun fn =>
  (hand cx fn.params.toList [] S.σ args).bind fun o => if (o.refs.any fun b => ((o.σ[b]?).getD []).isEmpty) = true then none else
    (C f o.args (o.refs.map fun b => ((o.σ[b]?).getD []).map dd)).map fun r => (r.1, { S with σ := putBack o.σ o.refs r.2 })

def applyT (cx : Cx) (C : Oracle) (S : St) (v : AV) (args : List AV) : Option (AV × St) := match v with
  | .fn f cs => if cx.mkf f = true then none else callT cx C S f (args ++ cs)
  | _ => none

/-- A call of a function that makes a place: it lies in the caller's store from now on. -/
def mkT (cx : Cx) (C : Oracle) (S : St) (f : Nat) (args : List AV) : Option (AV × St) := (cx.P.funcs[f]?).bind fun fn =>
  (hand cx fn.params.toList [] S.σ args).bind fun o => if o.refs.isEmpty = true then (C f o.args []).bind fun r => match r with
    | (.loc 0 0, [cs]) => some (.loc o.σ.length 0, { S with σ := o.σ ++ [cs] })
    | _ => none
  else none

def mkOp (cx : Cx) : Operand → Option Nat
  | .func f => if cx.mkf f = true then some f else none
  | _ => none

def builtinT (cx : Cx) (S : St) (b : Builtin) (ts : List Nat) (args : List AV) : Option (AV × St) := match b, ts, args with
  | .len, t :: _, x :: _ => (cx.ty t).bind fun ti => match ti.kind, x with
      | .slice _, .sl es _ => some (.int .i64 es.length, S)
      | .slice _, .row _ n => some (.int .i64 n, S)
      | _, _ => none
  | .append, [t, t'], [s, x] => if t = t' then appendT cx S t s x else none
  | .max, _, [.int k x, .int k' y] => if k = k' then some (.int k (if y > x then y else x), S) else none
  | .min, _, [.int k x, .int k' y] => if k = k' then some (.int k (if y < x then y else x), S) else none
  | _, _, _ => none

def asBoolT : AV → Option Bool
  | .bool b => some b
  | _ => none

/-- The value of an operation, and the store behind it. -/
def opT (cx : Cx) (C : Oracle) (r : Regs) (S : St) : Op → Option (AV × St)
  | .move x | .assign x => (ev r x).map fun v => (v, S)
  | .pick c a b => (ev r c).bind fun c => (asBoolT c).bind fun c => (ev r a).bind fun a => (ev r b).map fun b => (if c then a else b, S)
  | .alloc t => (cx.ty t).bind fun ti => if ti.zero.all AV.isCell = true then some (.loc S.σ.length 0, { S with σ := S.σ ++ [ti.zero] }) else none
  | .box t x => (ev r x).bind fun v => if v.cells.all AV.isCell = true then if cx.im t = true then some (.rp v.cells, S) else some (.loc S.σ.length 0, { S with σ := S.σ ++ [v.cells] }) else none
  | .build t ps => (evp r ps.toList).bind fun ps => (buildT cx t ps).map fun v => (v, S)
  | .buildSlice t n ps => (evp r ps.toList).bind fun ps => (buildSliceT cx t n ps).map fun v => (v, S)
  | .load t a => (ev r a).bind fun a => (loadT cx S t a).map fun v => (v, S)
  | .store t a x => (ev r a).bind fun a => (ev r x).bind fun x => (storeT cx S t x a).map fun S => (.tup [], S)
  | .nilCheck x => (ev r x).bind fun v => match v with
      | .loc _ _ | .rp _ | .iface _ _ => some (v, S)
      | .fn _ _ => some (v, S)
      | _ => none
  | .binOp op t x y _ => (ev r x).bind fun x => (ev r y).bind fun y => (binT cx op t x y).map fun v => (v, S)
  | .unOp .not _ x => (ev r x).bind fun x => (asBoolT x).map fun b => (.bool !b, S)
  | .makeInterface t x => (ev r x).bind fun x => match isIface cx t with
      | some false => some (.iface t x, S)
      | _ => none
  | .makeFunc (.func f) fs cs => if fs.size = 0 then (evs r cs.toList).map fun cs => (.fn f cs, S) else none
  | .makeSlice t l c => (ev r l).bind fun l => (ev r c).bind fun c => makeSliceT cx S t l c
  | .slice t x lo hi mx => if (mx.isSome && hi.isNone) = true then none else (ev r x).bind fun x => (sliceT cx t x (lo.map (ev r)) (hi.map (ev r)) (mx.map (ev r))).map fun v => (v, S)
  | .fieldAddr t x f => (ev r x).bind fun x => (fieldAddrT cx t x f).map fun v => (v, S)
  | .field t x f => (ev r x).bind fun x => (fieldT cx t x f).map fun v => (v, S)
  | .indexAddr t x i => (ev r x).bind fun x => (ev r i).bind fun i => (indexAddrT cx t x i).map fun v => (v, S)
  | .typeAssert x _ a ok => (ev r x).bind fun x => (typeAssertT cx x a ok).map fun v => (v, S)
  | .extract x i => (ev r x).bind fun x => match x with
      | .tup vs => (vs[i]?).map fun v => (v, S)
      | _ => none
  | .call c => (evs r c.args.toList).bind fun args => match c.callee with
      | .builtin b => builtinT cx S b c.argTypes.toList args
      | .value x => match mkOp cx x with
        | some f => mkT cx C S f args
        | none => (ev r x).bind fun v => applyT cx C S v args
      | .invoke _ _ => none
  | _ => none

/-- Is the operation wanted? None: not known here. -/
def wantedT (ops : Array Oper) (r : Regs) (o : Oper) : Option Bool := match o.guard with
  | none => some true
  | some (j, want) => match (ops[j]?).bind (·.dst) with
      | none => some false
      | some d => match r[d]? with
          | some (.bool b) => some (b == want)
          | some .undef => none
          | _ => some false

def putT (r : Regs) (d : Option Nat) (v : AV) : Regs := match d with
  | some d => r.set d v
  | none => r

def stepT (cx : Cx) (C : Oracle) (ops : Array Oper) (o : Oper) (r : Regs) (S : St) : Option (Regs × St) := (wantedT ops r o).bind fun w =>
  if w then (opT cx C r S o.op).map fun x => (putT r o.dst x.1, x.2) else some (putT r o.dst (.tup []), S)

def opsT (cx : Cx) (C : Oracle) (ops : Array Oper) : List Oper → Regs → St → Option (Regs × St)
  | [], r, S => some (r, S)
  | o :: os, r, S => (stepT cx C ops o r S).bind fun x => opsT cx C ops os x.1 x.2

/-! ### Regions without an order -/
def AV.block : AV → List Nat
  | .loc b _ => [b]
  | _ => []

def AV.locs : AV → List Nat
  | .loc b _ => [b]
  | .fn _ cs => cs.flatMap AV.block
  | _ => []

def AV.made : AV → List Nat
  | .loc b _ | .row b _ => [b]
  | _ => []

/-- The blocks that an operation looks at or changes. -/
def foot (r : Regs) (o : Oper) : List Nat := match o.op with
  | .load _ a | .store _ a _ => ((ev r a).map AV.block).getD []
  | .alloc _ | .box _ _ | .makeSlice _ _ _ => (o.dst.map fun d => (r.getD d (.tup [])).made).getD []
  | .call c => (((evs r c.args.toList).map fun l => l.flatMap AV.locs).getD []) ++ (match c.callee with
    | .value x => (match ev r x with | some (.fn _ cs) => cs.flatMap AV.locs | _ => [])
    | _ => [])
  | _ => []

/-- None of the loose pairs meets in the store. -/
def apartT (r : Regs) (ops : Array Oper) : List (Nat × Nat) → Bool
  | [] => true
  | (j, i) :: l => (match ops[j]?, ops[i]? with
    | some x, some y => (match x.op with | .alloc _ | .box _ _ | .makeSlice _ _ _ => !(foot r x).isEmpty | _ => true) && (foot r x).all fun b => !(foot r y).contains b
    | _, _ => false) && apartT r ops l

inductive Ex where
  | normal | exit (id : Nat) | ret
  deriving DecidableEq

structure Out where
  ex : Ex
  r : Regs
  S : St

abbrev Loops := Code → Regs → St → Option Out

def codeT (cx : Cx) (C : Oracle) (L : Loops) : Code → Regs → St → Option Out
  | .skip, r, S => some ⟨.normal, r, S⟩
  | .region _ ops false, r, S => (opsT cx C ops ops.toList r S).map fun x => ⟨.normal, x.1, x.2⟩
  | .region id ops true, r, S => (opsT cx C ops ops.toList r S).bind fun x => if apartT x.1 ops (cx.lz id) = true then some ⟨.normal, x.1, x.2⟩ else none
  | .seq a b, r, S => (codeT cx C L a r S).bind fun o => match o.ex with
      | .normal => codeT cx C L b o.r o.S
      | _ => some o
  | .cond c a b, r, S => (ev r c).bind fun v => (asBoolT v).bind fun t => if t then codeT cx C L a r S else codeT cx C L b r S
  | .block id b, r, S => (codeT cx C L b r S).map fun o => match o.ex with
      | .exit i => if i = id then ⟨.normal, o.r, o.S⟩ else o
      | _ => o
  | .exit id, r, S => some ⟨.exit id, r, S⟩
  | .ret, r, S => some ⟨.ret, r, S⟩
  | .loop b, r, S => L b r S
  | _, _, _ => none

def loopN (cx : Cx) (C : Oracle) : Nat → Loops
  | 0, _, _, _ => none
  | n + 1, b, r, S => (codeT cx C (loopN cx C n) b r S).bind fun o => match o.ex with
      | .normal => loopN cx C n b o.r o.S
      | _ => some o

def resultT (cx : Cx) (r : Regs) (S : St) : ResultVar → Option AV
  | .tmp t => some (r.getD t (.tup []))
  | .cell a t => loadT cx S t (r.getD a (.tup []))

def resultsT (cx : Cx) (r : Regs) (S : St) : List ResultVar → Option (List AV)
  | [] => some []
  | x :: xs => (resultT cx r S x).bind fun v => (resultsT cx r S xs).map (v :: ·)

def pack : List AV → AV
  | [v] => v
  | vs => .tup vs

/-- A call from inside, the body run by 'run'. -/
def bodyT (cx : Cx) (run : Code → Regs → St → Option Out) (f : Nat) (args : List AV) (σ : List (List AV)) : Option (AV × List (List AV)) := (cx.P.funcs[f]?).bind fun fn => fn.body.bind fun c =>
  if fn.name == "runtime.NumGoroutine" then none else
  (run c (args ++ List.replicate (fn.ntmps - args.length) (.tup [])) ⟨σ, []⟩).bind fun o => match o.ex with
    | .exit _ => none
    | _ => (resultsT cx o.r o.S fn.results.toList).bind fun vs => if cx.mkf f = true then (match σ, vs with
        | [], [.loc b 0] => (o.S.σ[b]?).bind fun cs => if cs.isEmpty = true then none else some (.loc 0 0, [cs.map dd])
        | _, _ => none) else if ((o.S.σ.take σ.length).any List.isEmpty || decide (o.S.σ.length < σ.length)) = true then none else
        some (fz o.S.σ σ.length o.S.σ.length (pack vs), (o.S.σ.take σ.length).map (·.map dd))

/-- Calls, so deep; E answers for the functions shown by hand. -/
def callN (cx : Cx) (E : Oracle) : Nat → Oracle
  | 0, _, _, _ => none
  | n + 1, f, args, σ => if cx.ext f = true then E f args σ else bodyT cx (codeT (cx.at f) (callN cx E n) (loopN (cx.at f) (callN cx E n) n)) f args σ

end M
end Go.Proofs.YthclcchnodjjpaaGreatDoor
/- SOUNDNESS 1: what a value of T says of the machine's value in a world (VR), and that it stays true. -/
set_option linter.unusedVariables false
namespace Go.Proofs.YthclcchnodjjpaaGreatDoor
namespace M

/-- The blocks of the store (none: given away); the tokens: version, block, cells in use; what others own: a block, from a place on. -/
structure Gh where
  loc : List (Option Nat)
  tok : List (Nat × Nat × Nat)
  out : List (Nat × Nat)

/-- A cell that nobody writes any more. -/
def Stab (G : Gh) (w : World) (a : Addr) : Prop := a.block < w.heap.size ∧ some a.block ∉ G.loc ∧ (∀ e ∈ G.tok, e.2.1 = a.block → a.off < e.2.2) ∧ ∀ e ∈ G.out, e.1 = a.block → a.off < e.2

/-- A cell that holds u, for good. -/
def Cell (G : Gh) (w : World) (a : Addr) (u : Value) : Prop := w.cell? a = some u ∧ Stab G w a ∧ u.oneCell' = true

/-- A block of so many cells lies there. -/
def Blk (w : World) (b n : Nat) : Prop := ∃ cs t, w.heap[b]? = some (.cells cs t (0, 0)) ∧ cs.size = n

/-- What is known of the room behind a slice of n elements of sz cells at A. -/
def OwnOk (G : Gh) (w : World) (A : Option Addr) (n sz cap : Nat) : Own → Prop
  | .dead => True
  | .full => cap = n
  | .tok i v => ∃ v' b k, G.tok[i]? = some (v', b, k) ∧ v ≤ v' ∧ (v' = v → A = some ⟨b, 0, none⟩ ∧ k = n * sz ∧ Blk w b (cap * sz))

inductive VR (G : Gh) (w : World) : AV → Value → Prop where
  | undef {v : Value} : VR G w .undef v
  | bool {b : Bool} : VR G w (.bool b) (.bool b)
  | int {k : IntKind} {n : Int} : VR G w (.int k n) (.int k n)
  | agg {cs : List AV} {vs : List Value} (hl : cs.length = vs.length) (h1 : ∀ i (h : i < cs.length) (h' : i < vs.length), vs[i].oneCell' = true) (h : ∀ i (h : i < cs.length) (h' : i < vs.length), VR G w cs[i] vs[i]) : VR G w (.agg cs) (.agg vs.toArray)
  | tup {cs : List AV} {vs : List Value} (hl : cs.length = vs.length) (h : ∀ i (h : i < cs.length) (h' : i < vs.length), VR G w cs[i] vs[i]) : VR G w (.tup cs) (.tuple vs.toArray)
  | sl {es : List (List AV)} {o : Own} {A : Option Addr} {cap sz : Nat} (u : Nat → Nat → Value) (hc : es.length ≤ cap) (hz : ∀ i (h : i < es.length), es[i].length = sz)
      (ha : ∀ i j, i < es.length → j < sz → ∃ a, A = some a ∧ Cell G w (a.add (i * sz + j)) (u i j)) (h : ∀ i (h : i < es.length) j (h' : j < es[i].length), VR G w es[i][j] (u i j))
      (ho : OwnOk G w A es.length sz cap o) : VR G w (.sl es o) (.slice A es.length cap)
  | row {b n : Nat} {a : Addr} {o : Option Nat} (h : G.loc[b]? = some o) (hv : ∀ blk, o = some blk → a = ⟨blk, 0, none⟩) : VR G w (.row b n) (.slice (some a) n n)
  | loc {b off : Nat} {a : Addr} {o : Option Nat} (h : G.loc[b]? = some o) (hv : ∀ blk, o = some blk → a = ⟨blk, off, none⟩) : VR G w (.loc b off) (.pointer (some a))
  | rp {cs : List AV} {a : Addr} (u : Nat → Value) (ha : ∀ j, j < cs.length → Cell G w (a.add j) (u j)) (h : ∀ j (h : j < cs.length), VR G w cs[j] (u j)) : VR G w (.rp cs) (.pointer (some a))
  | nilp : VR G w .nilp (.pointer none)
  | fn {f : Nat} {cs : List AV} {vs : List Value} (hl : cs.length = vs.length) (h : ∀ i (h : i < cs.length) (h' : i < vs.length), VR G w cs[i] vs[i]) : VR G w (.fn f cs) (.func (.func f) #[] vs.toArray)
  | nilf : VR G w .nilf .nilFunc
  | iface {t : Nat} {v : AV} {u : Value} (h : VR G w v u) : VR G w (.iface t v) (.iface t u)
  | nili : VR G w .nili .nilIface

/-- Lists of values. -/
def VRs (G : Gh) (w : World) (cs : List AV) (vs : List Value) : Prop := cs.length = vs.length ∧ ∀ i (h : i < cs.length) (h' : i < vs.length), VR G w cs[i] vs[i]

/-- What has come, with the ghost and the world before: old stable cells as they were, the store's blocks and the live tokens too. -/
structure Ge (G : Gh) (w : World) (G' : Gh) (w' : World) : Prop where
  cell : ∀ (a : Addr) (u : Value), w.cell? a = some u → Stab G w a → w'.cell? a = some u ∧ Stab G' w' a
  loc : ∀ (i : Nat) (o : Option Nat), G.loc[i]? = some o → G'.loc[i]? = some o ∨ G'.loc[i]? = some none
  tok : ∀ (i v b k : Nat), G.tok[i]? = some (v, b, k) → ∃ v' b' k', G'.tok[i]? = some (v', b', k') ∧ v ≤ v' ∧ (v' = v → b' = b ∧ k' = k ∧ ∀ n, Blk w b n → Blk w' b n)
  out : G'.out = G.out

theorem Ge.refl (G : Gh) (w : World) : Ge G w G w where
  cell := fun a u h s => ⟨h, s⟩
  loc := fun _ _ h => .inl h
  tok := fun i v b k h => ⟨v, b, k, h, Nat.le_refl v, fun _ => ⟨rfl, rfl, fun _ h => h⟩⟩
  out := rfl

theorem Ge.trans {G G1 G2 : Gh} {w w1 w2 : World} (h : Ge G w G1 w1) (h' : Ge G1 w1 G2 w2) : Ge G w G2 w2 where
  cell := fun a u c s => by
    obtain ⟨c1, s1⟩ := h.cell a u c s
    exact h'.cell a u c1 s1
  loc := fun i o l => by
    rcases h.loc i o l with l | l
    · exact h'.loc i o l
    · exact .inr ((h'.loc i none l).elim id id)
  tok := fun i v b k t => by
    obtain ⟨v1, b1, k1, t1, le1, e1⟩ := h.tok i v b k t
    obtain ⟨v2, b2, k2, t2, le2, e2⟩ := h'.tok i v1 b1 k1 t1
    refine ⟨v2, b2, k2, t2, Nat.le_trans le1 le2, fun e => ?_⟩
    obtain ⟨rfl, rfl, f1⟩ := e1 (by omega)
    obtain ⟨rfl, rfl, f2⟩ := e2 (by omega)
    exact ⟨rfl, rfl, fun n b => f2 n (f1 n b)⟩
  out := h'.out.trans h.out

theorem Cell.mono {G G' : Gh} {w w' : World} (hg : Ge G w G' w') {a : Addr} {u : Value} (h : Cell G w a u) : Cell G' w' a u :=
  ⟨(hg.cell a u h.1 h.2.1).1, (hg.cell a u h.1 h.2.1).2, h.2.2⟩

theorem OwnOk.mono {G G' : Gh} {w w' : World} (hg : Ge G w G' w') {A : Option Addr} {n sz cap : Nat} : ∀ {o : Own}, OwnOk G w A n sz cap o → OwnOk G' w' A n sz cap o
  | .dead, _ => trivial
  | .full, h => h
  | .tok i v, h => by
    obtain ⟨v1, b, k, t, le, f⟩ := h
    obtain ⟨v2, b2, k2, t2, le2, f2⟩ := hg.tok i v1 b k t
    refine ⟨v2, b2, k2, t2, Nat.le_trans le le2, fun e => ?_⟩
    obtain ⟨rfl, rfl, hb⟩ := f2 (by omega)
    obtain ⟨h1, h2, h3⟩ := f (by omega)
    exact ⟨h1, h2, hb _ h3⟩

theorem VR.mono {G G' : Gh} {w w' : World} (hg : Ge G w G' w') {a : AV} {v : Value} (h : VR G w a v) : VR G' w' a v := by
  induction h with
  | undef => exact .undef
  | bool => exact .bool
  | int => exact .int
  | agg hl h1 _ ih => exact .agg hl h1 ih
  | tup hl _ ih => exact .tup hl ih
  | sl u hc hz ha _ ho ih =>
    refine .sl u hc hz (fun i j hi hj => ?_) ih (ho.mono hg)
    obtain ⟨a, e, c⟩ := ha i j hi hj
    exact ⟨a, e, c.mono hg⟩
  | row h hv =>
    rcases hg.loc _ _ h with h | h
    · exact .row h hv
    · exact .row h (fun _ e => by cases e)
  | loc h hv =>
    rcases hg.loc _ _ h with h | h
    · exact .loc h hv
    · exact .loc h (fun _ e => by cases e)
  | rp u ha _ ih => exact .rp u (fun j hj => (ha j hj).mono hg) ih
  | nilp => exact .nilp
  | fn hl _ ih => exact .fn hl ih
  | nilf => exact .nilf
  | iface _ ih => exact .iface ih
  | nili => exact .nili

theorem VRs.mono {G G' : Gh} {w w' : World} (hg : Ge G w G' w') {cs : List AV} {vs : List Value} (h : VRs G w cs vs) : VRs G' w' cs vs := ⟨h.1, fun i a b => (h.2 i a b).mono hg⟩

theorem VRs.nil (G : Gh) (w : World) : VRs G w [] [] := ⟨rfl, fun i h => by simp at h⟩
theorem VRs.cons {G : Gh} {w : World} {c : AV} {v : Value} {cs : List AV} {vs : List Value} (h : VR G w c v) (hs : VRs G w cs vs) : VRs G w (c :: cs) (v :: vs) :=
  ⟨by simp [hs.1], fun i a b => by
    cases i with
    | zero => exact h
    | succ i => exact hs.2 i (by simpa using a) (by simpa using b)⟩
theorem VRs.uncons {G : Gh} {w : World} {c : AV} {cs : List AV} {vs : List Value} (h : VRs G w (c :: cs) vs) : ∃ v vs', vs = v :: vs' ∧ VR G w c v ∧ VRs G w cs vs' := by
  cases vs with
  | nil => have := h.1; simp at this
  | cons v vs =>
    refine ⟨v, vs, rfl, h.2 0 (by simp) (by simp), by have := h.1; simpa using this, fun i a b => ?_⟩
    have := h.2 (i + 1) (by simpa using a) (by simpa using b)
    simpa using this
theorem VRs.append {G : Gh} {w : World} {cs ds : List AV} {vs us : List Value} (h : VRs G w cs vs) (h' : VRs G w ds us) : VRs G w (cs ++ ds) (vs ++ us) := by
  induction cs generalizing vs with
  | nil =>
    have : vs = [] := List.eq_nil_of_length_eq_zero (by have := h.1; simpa using this.symm)
    subst this; exact h'
  | cons c cs ih =>
    obtain ⟨v, vs', rfl, h1, h2⟩ := h.uncons
    exact .cons h1 (ih h2)
theorem VRs.get {G : Gh} {w : World} {cs : List AV} {vs : List Value} (h : VRs G w cs vs) {i : Nat} {c : AV} (hi : cs[i]? = some c) : ∃ v, vs[i]? = some v ∧ VR G w c v := by
  obtain ⟨hlt, rfl⟩ := List.getElem?_eq_some_iff.1 hi
  have hlt' : i < vs.length := h.1 ▸ hlt
  exact ⟨vs[i], List.getElem?_eq_getElem hlt', h.2 i hlt hlt'⟩
theorem VRs.set {G : Gh} {w : World} {cs : List AV} {vs : List Value} (h : VRs G w cs vs) {c : AV} {v : Value} (hc : VR G w c v) (i : Nat) : VRs G w (cs.set i c) (vs.set i v) :=
  ⟨by simp [h.1], fun j a b => by
    simp only [List.getElem_set]
    split
    · exact hc
    · exact h.2 j (by simpa using a) (by simpa using b)⟩
theorem VRs.take {G : Gh} {w : World} {cs : List AV} {vs : List Value} (h : VRs G w cs vs) (n : Nat) : VRs G w (cs.take n) (vs.take n) :=
  ⟨by simp [h.1], fun j a b => by simp only [List.getElem_take]; exact h.2 j _ _⟩
theorem VRs.drop {G : Gh} {w : World} {cs : List AV} {vs : List Value} (h : VRs G w cs vs) (n : Nat) : VRs G w (cs.drop n) (vs.drop n) :=
  ⟨by simp [h.1], fun j a b => by simp only [List.getElem_drop]; exact h.2 _ _ _⟩

/-- Without places, and with no room known. -/
theorem VR.weaken {G G' : Gh} {w w' : World} (hc : ∀ (a : Addr) (u : Value), w.cell? a = some u → Stab G w a → w'.cell? a = some u ∧ Stab G' w' a)
    (g : Nat → Nat → AV) {a : AV} {v : Value} (h : VR G w a v) (hg : ∀ b off v, VR G w (.loc b off) v → VR G' w' (g b off) v) : VR G' w' (mapLoc g a) v := by
  have ml : ∀ l : List AV, mapLocs g l = l.map (mapLoc g) := by
    intro l
    induction l with
    | nil => rfl
    | cons x l ih => simp only [mapLocs, List.map_cons, ih]
  have mls : ∀ l : List (List AV), mapLocss g l = l.map (mapLocs g) := by
    intro l
    induction l with
    | nil => rfl
    | cons x l ih => simp only [mapLocss, List.map_cons, ih]
  have cell : ∀ a u, Cell G w a u → Cell G' w' a u := fun a u h => ⟨(hc a u h.1 h.2.1).1, (hc a u h.1 h.2.1).2, h.2.2⟩
  induction h with
  | undef => exact .undef
  | bool => exact .bool
  | int => exact .int
  | agg hl h1 _ ih =>
    simp only [mapLoc, ml]
    exact .agg (by simpa using hl) (fun i a b => h1 i (by simpa using a) b) (fun i a b => by simpa using ih i (by simpa using a) b)
  | tup hl _ ih =>
    simp only [mapLoc, ml]
    exact .tup (by simpa using hl) (fun i a b => by simpa using ih i (by simpa using a) b)
  | @sl es o A cap sz u h0 hz ha _ ho ih =>
    simp only [mapLoc, mls]
    rw [show es.length = (es.map (mapLocs g)).length by simp]
    refine .sl (sz := sz) u (by simpa using h0) (fun i hi => ?_) (fun i j hi hj => ?_) (fun i hi j hj => ?_) trivial
    · simp only [List.getElem_map, ml, List.length_map]; exact hz i (by simpa using hi)
    · obtain ⟨a, e, c⟩ := ha i j (by simpa using hi) hj
      exact ⟨a, e, cell _ _ c⟩
    · simp only [List.getElem_map, ml]
      simp only [List.getElem_map, ml, List.length_map] at hj
      exact ih i (by simpa using hi) j hj
  | row h hv => exact .undef
  | loc h hv => exact hg _ _ _ (.loc h hv)
  | rp u ha _ ih =>
    simp only [mapLoc, ml]
    exact .rp u (fun j hj => cell _ _ (ha j (by simpa using hj))) (fun j hj => by simpa using ih j (by simpa using hj))
  | nilp => exact .nilp
  | fn hl _ ih =>
    simp only [mapLoc, ml]
    exact .fn (by simpa using hl) (fun i a b => by simpa using ih i (by simpa using a) b)
  | nilf => exact .nilf
  | iface _ ih => simp only [mapLoc]; exact .iface ih
  | nili => exact .nili

end M
end Go.Proofs.YthclcchnodjjpaaGreatDoor
