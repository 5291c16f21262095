/-
  A symbolic reading of values, of memory and of calls: definitions that the kernel runs.
-/
import Derived.Calls
import Derived.Orders
import Derived.KernelRfl
import Derived.Laws.Cells
import Derived.Laws.CopyRow
import Derived.Laws.Strings
import Derived.Laws.StructEq
import Derived.Stop.Asserts
import Derived.Laws.Tables
set_option linter.all false
set_option linter.unusedVariables false
set_option linter.unusedSimpArgs false
set_option linter.unnecessarySimpa false
namespace Go.Rl

/-- A value, as far as it is known: 'v' is any value of which nothing leads to a named block. -/
inductive SV where
  | v (x : Value)
  | b (x : Bool)
  | i (k : IntKind) (n : Int)
  | s (x : ByteArray)
  | p (n off : Nat)
  | np
  | ni
  | nf
  | nsl
  | sl (n off len cap : Nat)
  | so (n off len cap lo : Nat)
  | mp (n : Nat)
  | fn (f : FuncId) (cs : List SV)
  | fb (f : FuncId) (fs : List SV)
  | ifc (t : TypeId) (x : SV)
  | ag (cs : List SV)
  | tp (cs : List SV)
  deriving Inhabited

/-- Which block a name is; none: it is none yet. -/
abbrev Rho := Nat → Option Nat

mutual
def SV.den (ρ : Rho) : SV → Option Value
  | .v x => some x
  | .b x => some (.bool x)
  | .i k n => some (.int k n)
  | .s x => some (.string x)
  | .p n off => (ρ n).map fun b => .pointer (some ⟨b, off, none⟩)
  | .np => some (.pointer none)
  | .ni => some .nilIface
  | .nf => some .nilFunc
  | .nsl => some (.slice none 0 0)
  | .sl n off len cap => (ρ n).map fun b => .slice (some ⟨b, off, none⟩) len cap
  | .so n off len cap lo => if lo ≤ len then (ρ n).map fun b => .slice (some ⟨b, off, none⟩) len cap else none
  | .mp n => (ρ n).map fun b => .map (some b)
  | .fn f cs => (SV.denL ρ cs).map fun l => .func (.func f) #[] l.toArray
  | .fb f fs => (SV.denL ρ fs).map fun l => .func (.func f) l.toArray #[]
  | .ifc t x => (SV.den ρ x).map fun y => .iface t y
  | .ag cs => (SV.denL ρ cs).map fun l => .agg l.toArray
  | .tp cs => (SV.denL ρ cs).map fun l => .tuple l.toArray
def SV.denL (ρ : Rho) : List SV → Option (List Value)
  | [] => some []
  | x :: r => (SV.den ρ x).bind fun y => (SV.denL ρ r).map fun l => y :: l
end

/-- An object that is no row: any, or a map of numbers to numbers. -/
inductive SOb where
  | any (o : Obj)
  | im (q qv : IntKind) (l : List (Int × Int × Nat)) (c : Nat)
  deriving Inhabited

def ient (q qv : IntKind) (e : Int × Int × Nat) : MapEntry := ⟨.int q e.1, .int qv e.2.1, e.2.2⟩

def SOb.obj : SOb → Obj
  | .any o => o
  | .im q qv l c => .map (l.map (ient q qv)).toArray c

def imFind (a : Int) : List (Int × Int × Nat) → Nat → Option (Nat × Int)
  | [], _ => none
  | e :: r, i => match a == e.1 with | true => some (i, e.2.1) | false => imFind a r (i + 1)

def imGet (a : Int) (l : List (Int × Int × Nat)) : Int := match imFind a l 0 with | some (_, x) => x | none => 0
def imHas (a : Int) (l : List (Int × Int × Nat)) : Bool := (imFind a l 0).isSome
def imPut (a v : Int) (c : Nat) (l : List (Int × Int × Nat)) : List (Int × Int × Nat) :=
  match imFind a l 0 with | some (i, _) => l.modify i fun e => (a, v, e.2.2) | none => l ++ [(a, v, c)]
def imClock (a : Int) (c : Nat) (l : List (Int × Int × Nat)) : Nat := match imFind a l 0 with | some _ => c | none => c + 1
def imDel (a : Int) (l : List (Int × Int × Nat)) : List (Int × Int × Nat) := match imFind a l 0 with | some (i, _) => l.eraseIdx i | none => l

/-- A block, as far as it is known. -/
inductive SO where
  | dead
  | row (live : Bool) (ks : List SV) (rest : List Value) (T : TypeId)
  | obj (o : SOb)
  deriving Inhabited

def ofV0 : Value → SV
  | .bool x => .b x
  | .int k n => .i k n
  | .string x => .s x
  | .pointer none => .np
  | .nilIface => .ni
  | .nilFunc => .nf
  | .slice none 0 0 => .nsl
  | x => .v x

def ofV : Value → SV
  | .agg cs => .ag (cs.toList.map ofV0)
  | .iface t x => .ifc t (ofV0 x)
  | .tuple cs => .tp (cs.toList.map ofV0)
  | x => ofV0 x

def sval (tm : List SV) : Operand → SV
  | .tmp t => tm.getD t (.tp [])
  | .const x => ofV x
  | .global g => .v (.pointer (some ⟨g, 0, none⟩))
  | .func f => .fn f []

/-- One cell's value, surely. -/
def oneV : Value → Bool
  | .agg _ => false
  | .tuple _ => false
  | _ => true

def oneS : SV → Bool
  | .ag _ => false
  | .tp _ => false
  | .v x => oneV x
  | _ => true

/-- The cells of a value; none: it is not known how many. -/
def cellsS : SV → Option (List SV)
  | .ag cs => some cs
  | .tp _ => none
  | .v x => if oneV x then some [.v x] else none
  | x => some [x]

section
variable (P : Program)

def tsz (t : TypeId) : Option Nat := (P.info? t).map fun i => i.size

def isAg (t : TypeId) : Option Bool :=
  match P.underlying t with
  | some (.struct _) => some true
  | some (.array _ _) => some true
  | some _ => some false
  | none => none

def zeroS (t : TypeId) : Option SV := (P.info? t).bind fun i => i.zero.map ofV

def ksOf : SO → Option (List SV)
  | .row true ks _ _ => some ks
  | _ => none

def sload (H : List SO) (t : TypeId) (n off : Nat) : Option SV :=
  (isAg P t).bind fun ag => (tsz P t).bind fun sz => (H[n]?.bind ksOf).bind fun ks =>
    match ag with
    | true => if Nat.ble (off + sz) ks.length then some (.ag ((ks.drop off).take sz)) else none
    | false => ks[off]?

/-- Which cells a load reads, a store writes. -/
def sstore (H : List SO) (t : TypeId) (n off : Nat) (x : SV) : Option (List SO) :=
  (tsz P t).bind fun sz => (cellsS x).bind fun cs =>
    match H[n]? with
    | some (.row true ks rest T) =>
      if Nat.beq cs.length sz && Nat.ble (off + sz) ks.length && cs.all oneS then
        some (H.set n (.row true (ks.take off ++ (cs ++ ks.drop (off + sz))) rest T))
      else none
    | _ => none

def foff (t : TypeId) (f : Nat) : Option Nat :=
  match P.underlying t with
  | some (.struct fs) => (fs[f]?).bind fun fl => (tsz P fl.type).bind fun sz => if Nat.beq sz 0 then none else some fl.offset
  | _ => none

def spart (t : TypeId) (cs : List SV) (off : Nat) : Option SV :=
  (isAg P t).bind fun ag => match ag with
    | true => (tsz P t).bind fun sz => if Nat.ble (off + sz) cs.length then some (.ag ((cs.drop off).take sz)) else none
    | false => cs[off]?

/-- The zero value's cells with parts laid over them. -/
def fillS (place : Nat → Option (Nat × Nat)) (cells : List SV) : List (Nat × SV) → Option (List SV)
  | [] => some cells
  | (i, x) :: rest =>
    (place i).bind fun (off, size) => (cellsS x).bind fun cs =>
      if Nat.beq cs.length size && Nat.ble (off + size) cells.length then
        fillS place (cells.take off ++ (cs ++ cells.drop (off + size))) rest
      else none

def sbuild (t : TypeId) (parts : List (Nat × SV)) : Option SV :=
  match P.underlying t with
  | some (.struct fs) =>
    (zeroS P t).bind fun z => (cellsS z).bind fun zc =>
      (fs.toList.mapM (fun f => (P.info? f.type).map fun i => (f.offset, i.size))).bind fun places =>
        (fillS (fun i => places[i]?) zc parts).map .ag
  | _ => none

def repL (zc : List SV) : Nat → List SV
  | 0 => []
  | n + 1 => zc ++ repL zc n

def sbuildSlice (t : TypeId) (len : Nat) (parts : List (Nat × SV)) : Option (List SV × TypeId) :=
  match P.underlying t with
  | some (.slice e) =>
    (tsz P e).bind fun sz => (zeroS P e).bind fun z => (cellsS z).bind fun zc =>
      if Nat.beq zc.length sz && !(Nat.beq sz 0) && Nat.ble (len * sz) 16777216 then
        (fillS (fun i => some (i * sz, sz)) (repL zc len) parts).map fun l => (l, e)
      else none
  | _ => none

/-- What a new block is known by: its pointer, or a slice of so many. -/
inductive NewK where
  | ptr
  | slice (n : Nat)

def NewK.sv : NewK → Nat → SV
  | .ptr, n => .p n 0
  | .slice l, n => .sl n 0 l l

/-- What an operation comes to. -/
inductive OR where
  | val (x : SV)
  | br (t : Tmp) (c : Bool)
  | new (k : NewK) (ks : List SV) (T : TypeId)
  | heap (H : List SO)
  | map (o : SOb)
  | hobj (n : Nat) (o : SOb)
  | enter (f : FuncId) (args : List SV)
  | need (c : Bool) (x : SV)
  | stop

/-- A value, surely. -/
def OR.isVal (r : OR) (y : SV) : Prop := r = .val y ∨ ∃ c, r = .need c y ∧ c = true

def OR.ofVal : Option SV → OR
  | some x => .val x
  | none => .stop

def slen (t : TypeId) (x : SV) : Option SV :=
  match P.underlying t, x with
  | some (.slice _), .sl _ _ len _ => some (.i .i64 len)
  | some (.slice _), .so _ _ len _ _ => some (.v (.int .i64 len))
  | some (.slice _), .nsl => some (.i .i64 0)
  | some (.slice _), .v (.slice _ n _) => some (.v (.int .i64 n))
  | some .string, .s x => some (.i .i64 x.size)
  | some .string, .v (.string x) => some (.v (.int .i64 x.size))
  | _, _ => none

def sarith (op : BinOp) (k : IntKind) (a b : Int) : Option Int :=
  match op with
  | .add => some (k.wrap (a + b))
  | .sub => some (k.wrap (a - b))
  | .mul => some (k.wrap (a * b))
  | _ => none

def scmp (op : BinOp) (a b : Int) : Option Bool :=
  match op with
  | .eql => some (a == b)
  | .neq => some (a != b)
  | .lss => some (decide (a < b))
  | .leq => some (decide (a ≤ b))
  | .gtr => some (decide (a > b))
  | .geq => some (decide (a ≥ b))
  | _ => none

/-- Two numbers; 'lit': both are written out. -/
def sints (lit : Bool) (op : BinOp) (k k' : IntKind) (a b : Int) : Option SV :=
  if k = k' then
    match sarith op k a b with
    | some n => some (match lit with | true => .i k n | false => .v (.int k n))
    | none =>
      match scmp op a b with
      | some c => some (match lit with | true => .b c | false => .v (.bool c))
      | none => none
  else none

def isConst : Operand → Bool
  | .const _ => true
  | _ => false

/-- Is a value the nil one of its kind? none: not to be told so. -/
def nilTest (d : TypeDesc) (x : SV) : Option Bool :=
  match d, x with
  | .interface _, .ni => some true
  | .interface _, .ifc _ _ => some false
  | .interface _, .v (.iface _ _) => some false
  | .pointer _, .np => some true
  | .pointer _, .p _ _ => some false
  | .pointer _, .v (.pointer (some _)) => some false
  | .slice _, .v (.slice (some _) _ _) => some false
  | .slice _, .nsl => some true
  | .slice _, .sl _ _ _ _ => some false
  | .slice _, .so _ _ _ _ _ => some false
  | .func _ _ _, .nf => some true
  | .func _ _ _, .fn _ _ => some false
  | .func _ _ _, .fb _ _ => some false
  | _, _ => none

/-- Is this the constant nil? -/
def isNilS : SV → Bool
  | .np => true
  | .ni => true
  | .nf => true
  | .nsl => true
  | _ => false

def seql (t : TypeId) (cx cy : Bool) (x y : SV) : Option Bool :=
  match P.underlying t with
  | some d =>
    if (cx || cy) then
      if isNilS y then (if nilTest d y == some true then nilTest d x else none)
      else if isNilS x then (if nilTest d x == some true then nilTest d y else none)
      else none
    else none
  | none => none

def sbools (lit : Bool) (op : BinOp) (t : TypeId) (a b : Bool) : Option SV :=
  match P.underlying t with
  | some .bool =>
    (match op with
    | .eql => some (match lit with | true => .b (a == b) | false => .v (.bool (a == b)))
    | .neq => some (match lit with | true => .b (!(a == b)) | false => .v (.bool (!(a == b))))
    | _ => none)
  | _ => none

/-- Two cells of a type that compare without asking more; first: both are written out. -/
def seqOne (d : TypeDesc) (x y : SV) : Option (Bool × Bool) :=
  match d, x, y with
  | .int _, .i k a, .i k' b => if k = k' then some (true, a == b) else none
  | .int _, .i k a, .v (.int k' b) => if k = k' then some (false, a == b) else none
  | .int _, .v (.int k a), .i k' b => if k = k' then some (false, a == b) else none
  | .int _, .v (.int k a), .v (.int k' b) => if k = k' then some (false, a == b) else none
  | .bool, .b a, .b b => some (true, a == b)
  | .bool, .b a, .v (.bool b) => some (false, a == b)
  | .bool, .v (.bool a), .b b => some (false, a == b)
  | .bool, .v (.bool a), .v (.bool b) => some (false, a == b)
  | .string, .s a, .s b => some (true, decide (a.data.toList = b.data.toList))
  | .string, .s a, .v (.string b) => some (false, decide (a.data.toList = b.data.toList))
  | .string, .v (.string a), .s b => some (false, decide (a.data.toList = b.data.toList))
  | .string, .v (.string a), .v (.string b) => some (false, decide (a.data.toList = b.data.toList))
  | .pointer _, .np, .np => some (true, true)
  | .pointer _, .np, .p _ _ => some (true, false)
  | .pointer _, .p _ _, .np => some (true, false)
  | _, _, _ => none

def seqFields (one : TypeId → SV → SV → Option (Bool × Bool)) (xs ys : List SV) : List Field → Option (Bool × Bool)
  | [] => some (true, true)
  | f :: fs =>
    if f.name ≠ "_" then
      (spart P f.type xs f.offset).bind fun a => (spart P f.type ys f.offset).bind fun b =>
        match one f.type a b with
        | some (l, r) => (match seqFields one xs ys fs with | some (l', r') => some (l && l', r && r') | none => none)
        | none => none
    else none

def seqIn : Nat → TypeId → SV → SV → Option (Bool × Bool)
  | 0, _, _, _ => none
  | d + 1, t, x, y =>
    match P.underlying t with
    | some (.struct fs) =>
      (match x, y with
      | .ag xs, .ag ys => (match P.stoodInHeld t with | true => none | false => seqFields P (seqIn d) xs ys fs.toList)
      | _, _ => none)
    | some k => seqOne k x y
    | none => none

def seqAg (t : TypeId) (xs ys : List SV) : Option (Bool × Bool) :=
  match P.eqGuardType P.depth t with
  | true => none
  | false => seqIn P 6 t (.ag xs) (.ag ys)

def sbinAg (op : BinOp) (t : TypeId) (xs ys : List SV) : Option SV :=
  match op, seqAg P t xs ys with
  | .eql, some (true, r) => some (.b r)
  | .eql, some (false, r) => some (.v (.bool r))
  | .neq, some (true, r) => some (.b (!r))
  | .neq, some (false, r) => some (.v (.bool (!r)))
  | _, _ => none

/-- Two interface values, of which at most one is nil. -/
def sifcEq (t : TypeId) (x y : SV) : Option (Bool × Bool) :=
  match P.underlying t, x, y with
  | some (.interface _), .ni, .ifc _ _ => some (true, false)
  | some (.interface _), .ifc _ _, .ni => some (true, false)
  | some (.interface _), .ifc a x, .ifc b y =>
    (match Nat.beq a b with
    | false => some (true, false)
    | true => (P.info? a).bind fun i => match i.comparable with | true => (P.underlying a).bind fun k => seqOne k x y | false => none)
  | _, _, _ => none

def seqAny (t : TypeId) (cx cy : Bool) (x y : SV) : Option (Bool × Bool) :=
  match sifcEq P t x y with
  | some r => some r
  | none => (seql P t cx cy x y).map fun c => (true, c)

def litB (l c : Bool) : SV := match l with | true => .b c | false => .v (.bool c)

def sbin (op : BinOp) (t : TypeId) (cx cy : Bool) (x y : SV) : Option SV :=
  match x, y with
  | .i k a, .i k' b => sints true op k k' a b
  | .i k a, .v (.int k' b) => sints false op k k' a b
  | .v (.int k a), .i k' b => sints false op k k' a b
  | .v (.int k a), .v (.int k' b) => sints false op k k' a b
  | .s a, .v (.string b) =>
    (match op with | .eql => some (.v (.bool (decide (a.data.toList = b.data.toList)))) | .neq => some (.v (.bool (!(decide (a.data.toList = b.data.toList))))) | _ => none)
  | .v (.string a), .s b =>
    (match op with | .eql => some (.v (.bool (decide (a.data.toList = b.data.toList)))) | .neq => some (.v (.bool (!(decide (a.data.toList = b.data.toList))))) | _ => none)
  | .v (.string a), .v (.string b) =>
    (match op with | .eql => some (.v (.bool (decide (a.data.toList = b.data.toList)))) | .neq => some (.v (.bool (!(decide (a.data.toList = b.data.toList))))) | _ => none)
  | .s a, .s b =>
    (match op with | .eql => some (.b (decide (a.data.toList = b.data.toList))) | .neq => some (.b (!(decide (a.data.toList = b.data.toList)))) | _ => none)
  | .b a, .b b => sbools P true op t a b
  | .b a, .v (.bool b) => sbools P false op t a b
  | .v (.bool a), .b b => sbools P false op t a b
  | .v (.bool a), .v (.bool b) => sbools P false op t a b
  | .ag xs, .ag ys => sbinAg P op t xs ys
  | x, y =>
    match op with
    | .eql => (seqAny P t cx cy x y).map fun c => litB c.1 c.2
    | .neq => (seqAny P t cx cy x y).map fun c => litB c.1 (!c.2)
    | _ => none

def snot : SV → Option SV
  | .b x => some (.b (!x))
  | .v (.bool x) => some (.v (.bool (!x)))
  | _ => none

def enterable (f : FuncId) : Bool :=
  match P.funcs[f]? with
  | some fn => !(fn.name == "runtime.NumGoroutine") && fn.body.isSome
  | none => false

def senter (f : FuncId) (args : List SV) : OR := if enterable P f then .enter f args else .stop

def smakeSlice (t : TypeId) (x y : SV) : Option (Nat × List SV × TypeId) :=
  match P.underlying t, x, y with
  | some (.slice e), .i _ (.ofNat n), .i _ (.ofNat m) =>
    (P.info? e).bind fun i => (zeroS P e).bind fun z => (cellsS z).bind fun zc =>
      if Nat.beq n m && Nat.beq zc.length i.size && !(Nat.beq i.size 0) && Nat.ble n 16777216 && Nat.ble (i.bytes * n) 281474976710656 then some (n, repL zc n, e) else none
  | _, _, _ => none

/-- Is it a slice or a text of nothing? -/
def snone (d : TypeDesc) (x : SV) : Bool :=
  match d, x with
  | .slice _, .nsl => true
  | .slice _, .sl _ _ 0 _ => true
  | _, _ => false

def sappend (t tx : TypeId) (s x : SV) : OR :=
  match P.underlying t, P.underlying tx with
  | some (.slice e), some d =>
    (match tsz P e, snone d x with
    | some _, true => (match s with
      | .sl n off len cap => .need (Nat.ble len cap) (.sl n off len cap)
      | .so n off len cap lo => .need (Nat.ble len cap) (.so n off len cap lo)
      | .nsl => .val .nsl
      | _ => .stop)
    | _, _ => .stop)
  | _, _ => .stop

def sindexAddr (t : TypeId) (x i : SV) : Option SV :=
  match P.underlying t, x, i with
  | some (.slice e), .sl n off len _, .i _ j =>
    (tsz P e).bind fun sz => match j with
      | .ofNat j => if Nat.blt j len then some (.p n (off + j * sz)) else none
      | _ => none
  | some (.slice e), .so n off _ _ lo, .i _ j =>
    (tsz P e).bind fun sz => match j with
      | .ofNat j => if Nat.blt j lo then some (.p n (off + j * sz)) else none
      | _ => none
  | _, _, _ => none

def smakeMap (t : TypeId) : SOb :=
  match P.underlying t with
  | some (.map kt et) => (match P.underlying kt, P.underlying et with | some (.int q), some (.int qv) => .im q qv [] 0 | _, _ => .any (.map #[] 0))
  | _ => .any (.map #[] 0)

def sint : SV → Option (IntKind × Int)
  | .i k n => some (k, n)
  | .v (.int k n) => some (k, n)
  | _ => none

/-- The map of numbers that a value is, its number, its entries. -/
def imOf (H : List SO) (t : TypeId) (m : SV) : Option (Nat × IntKind × IntKind × List (Int × Int × Nat) × Nat) :=
  match P.underlying t, m with
  | some (.map kt et), .mp n =>
    (match H[n]? with
    | some (.obj (.im q qv l c)) =>
      (match P.underlying kt, P.underlying et, zeroS P et with
      | some (.int q'), some (.int qv'), some (.i qz 0) => if q = q' ∧ qv = qv' ∧ qv = qz then some (n, q, qv, l, c) else none
      | _, _, _ => none)
    | _ => none)
  | _, _ => none

def slookup (H : List SO) (t : TypeId) (m k : SV) (ok : Bool) : Option SV :=
  match imOf P H t m, sint k with
  | some (_, q, qv, l, _), some (q', a) =>
    if q = q' then some (match ok with | true => .tp [.v (.int qv (imGet a l)), .v (.bool (imHas a l))] | false => .v (.int qv (imGet a l))) else none
  | _, _ => none

def smapPut (H : List SO) (t : TypeId) (m k x : SV) : Option (Nat × SOb) :=
  match imOf P H t m, sint k, sint x with
  | some (n, q, qv, l, c), some (q', a), some (qv', v) => if q = q' ∧ qv = qv' then some (n, .im q qv (imPut a v c l) (imClock a c l)) else none
  | _, _, _ => none

def smapDel (H : List SO) (t : TypeId) (m k : SV) : Option (Nat × SOb) :=
  match imOf P H t m, sint k with
  | some (n, q, qv, l, c), some (q', a) => if q = q' then some (n, .im q qv (imDel a l) c) else none
  | _, _ => none

def sassert (asserted : TypeId) (x : SV) : Option SV :=
  match P.underlying asserted, x with
  | some (.interface want), .ifc t y =>
    (P.info? t).bind fun i => (match lacking want i.methods with
    | [] => some (.tp [.ifc t y, .b true])
    | _ :: _ => (zeroS P asserted).map fun z => .tp [z, .b false])
  | some _, .ni => (zeroS P asserted).map fun z => .tp [z, .b false]
  | some _, .ifc t y => (match Nat.beq t asserted with
    | true => some (.tp [y, .b true])
    | false => (zeroS P asserted).map fun z => .tp [z, .b false])
  | _, _ => none

/-- The method that a call of an interface value's comes to, where it stands in its own row. -/
def smethod (t : TypeId) (name : String) : Option FuncId :=
  (P.info? t).bind fun i => (i.methods.find? (·.name == name)).bind fun m =>
    match m.path.toList, m.func, P.underlying t with
    | [], some (f, true), some (.pointer _) => some f
    | [], some (_, false), some (.pointer _) => none
    | [], some (f, false), some _ => some f
    | _, _, _ => none

/-- A bound of a slice: not below 0 and not above 'y'. -/
def sbound (y : Nat) : Option SV → Nat → Option Nat
  | none, d => some d
  | some (.i _ (.ofNat n)), _ => if Nat.ble n y then some n else none
  | some _, _ => none

def sslice (t : TypeId) (x : SV) (lo hi : Option SV) : Option SV :=
  match P.underlying t, x with
  | some (.slice e), .nsl =>
    (tsz P e).bind fun _ => (sbound 0 hi 0).bind fun h => (sbound h lo 0).bind fun l => if Nat.beq h 0 && Nat.beq l 0 then some .nsl else none
  | some (.slice e), .sl n off len cap =>
    (tsz P e).bind fun sz => (sbound cap hi len).bind fun h => (sbound h lo 0).bind fun l =>
      match Nat.beq cap l with
      | true => some (.sl n off (h - l) (cap - l))
      | false => some (.sl n (off + l * sz) (h - l) (cap - l))
  | some .string, .s b =>
    (sbound b.size hi b.size).bind fun h => (sbound h lo 0).bind fun l => some (.s (b.extract l h))
  | _, _ => none

/-- A text's byte. -/
def byteAt (s : ByteArray) (i : Int) : Int := ((s.data.toList.getD i.toNat 0).toNat : Int)

def sstr : SV → Option ByteArray
  | .s x => some x
  | .v (.string x) => some x
  | _ => none

def sindex (t : TypeId) (x j : SV) : OR :=
  match P.underlying t, sstr x, sint j with
  | some .string, some s, some (_, i) => .need (decide (0 ≤ i) && decide (i < (s.size : Int))) (.v (.int .u8 (byteAt s i)))
  | _, _, _ => .stop

/-- An element's address, of a slice that is known, or one that is not looked into. -/
def sindexA (t : TypeId) (x j : SV) : OR :=
  match sindexAddr P t x j with
  | some y => .val y
  | none =>
    match P.underlying t, x, sint j with
    | some (.slice e), .v (.slice (some a) len _), some (_, i) =>
      (match tsz P e with
      | some sz => .need (decide (0 ≤ i) && decide (i < (len : Int))) (.v (.pointer (some (a.add (i.toNat * sz)))))
      | none => .stop)
    | _, _, _ => .stop

def smin (x y : SV) : Option SV :=
  match sint x, sint y with
  | some (k, a), some (_, b) => some (.v (.int k (if b < a then b else a)))
  | _, _ => none

def sop (H : List SO) (tm : List SV) (o : Oper) : OR :=
  match o.op with
  | .move x => .val (sval tm x)
  | .assign x => .val (sval tm x)
  | .pick c a b =>
    (match sval tm c with
    | .b true => .val (sval tm a)
    | .b false => .val (sval tm b)
    | .v (.bool q) => (match c with | .tmp t => .br t q | _ => .stop)
    | _ => .stop)
  | .load t a => (match sval tm a with | .p n off => .ofVal (sload P H t n off) | _ => .stop)
  | .store t a x => (match sval tm a with | .p n off => (match sstore P H t n off (sval tm x) with | some H' => .heap H' | none => .stop) | _ => .stop)
  | .nilCheck x => (match sval tm x with | .p n off => .val (.p n off) | .fn f cs => .val (.fn f cs) | .fb f fs => .val (.fb f fs) | .v (.pointer (some a)) => .val (.v (.pointer (some a))) | _ => .stop)
  | .fieldAddr t x f => (match sval tm x with
    | .p n off => (match foff P t f with | some d => .val (.p n (off + d)) | none => .stop)
    | .v (.pointer (some a)) => (match foff P t f with | some d => .val (.v (.pointer (some (a.add d)))) | none => .stop)
    | _ => .stop)
  | .field t x f =>
    (match P.underlying t, sval tm x with
    | some (.struct fs), .ag cs => .ofVal ((fs[f]?).bind fun fl => spart P fl.type cs fl.offset)
    | _, _ => .stop)
  | .extract t j => (match sval tm t with | .tp vs => .ofVal vs[j]? | _ => .stop)
  | .build t ps => .ofVal (sbuild P t (ps.toList.map fun (j, x) => (j, sval tm x)))
  | .alloc e => (match (zeroS P e).bind cellsS with | some cs => .new .ptr cs e | none => .stop)
  | .box e x => (match cellsS (sval tm x) with | some cs => .new .ptr cs e | none => .stop)
  | .buildSlice t n ps =>
    (match sbuildSlice P t n (ps.toList.map fun (j, x) => (j, sval tm x)) with
    | some (cs, e) => .new (.slice n) cs e
    | none => .stop)
  | .makeSlice t x y =>
    (match smakeSlice P t (sval tm x) (sval tm y) with
    | some (n, cs, e) => .new (.slice n) cs e
    | none => .stop)
  | .typeAssert x _ asserted true => .ofVal (sassert P asserted (sval tm x))
  | .slice t x lo hi none => .ofVal (sslice P t (sval tm x) (lo.map (sval tm)) (hi.map (sval tm)))
  | .makeMap t none => .map (smakeMap P t)
  | .lookup t m k ok => .ofVal (slookup P H t (sval tm m) (sval tm k) ok)
  | .mapUpdate t m k x => (match smapPut P H t (sval tm m) (sval tm k) (sval tm x) with | some (n, o) => .hobj n o | none => .stop)
  | .insert t m k x => (match smapPut P H t (sval tm m) (sval tm k) (sval tm x) with | some (n, o) => .hobj n o | none => .stop)
  | .makeFunc (.func f) first capt => (match first.toList, capt.toList with | [], _ => .val (.fn f (capt.toList.map (sval tm))) | _, [] => .val (.fb f (first.toList.map (sval tm))) | _, _ => .stop)
  | .makeInterface t x => (match P.underlying t with | some (.interface _) => .stop | some _ => .val (.ifc t (sval tm x)) | none => .stop)
  | .unOp .not _ x => .ofVal (snot (sval tm x))
  | .binOp op t x y _ => .ofVal (sbin P op t (isConst x) (isConst y) (sval tm x) (sval tm y))
  | .indexAddr t x j => sindexA P t (sval tm x) (sval tm j)
  | .index t x j => sindex P t (sval tm x) (sval tm j)
  | .call c =>
    (match c.callee with
    | .value (.func f) => senter P f (c.args.toList.map (sval tm))
    | .value g => (match sval tm g with | .fn f cs => senter P f (c.args.toList.map (sval tm) ++ cs) | .fb f fs => senter P f (fs ++ c.args.toList.map (sval tm)) | _ => .stop)
    | .invoke rv name => (match sval tm rv with
      | .ifc t y => (match smethod P t name with | some f => senter P f (y :: c.args.toList.map (sval tm)) | none => .stop)
      | _ => .stop)
    | .builtin .delete => (match c.argTypes.toList, c.args.toList with
      | [t, _], [a, b] => (match smapDel P H t (sval tm a) (sval tm b) with | some (n, o) => .hobj n o | none => .stop)
      | _, _ => .stop)
    | .builtin .append => (match c.argTypes.toList, c.args.toList with | [t, tx], [a, b] => sappend P t tx (sval tm a) (sval tm b) | _, _ => .stop)
    | .builtin .len => (match c.argTypes.toList, c.args.toList with | t :: _, [x] => .ofVal (slen P t (sval tm x)) | _, _ => .stop)
    | .builtin .min => (match c.args.toList with | [x, y] => .ofVal (smin (sval tm x) (sval tm y)) | _ => .stop)
    | _ => .stop)
  | _ => .stop

end
end Go.Rl
