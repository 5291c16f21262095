/-
  A symbolic machine: frames, regions in one order that serves all orders, calls.
-/
import Derived.Test.YtghmpcnchjjikaaGreatRlSv
set_option linter.all false
set_option linter.unusedVariables false
set_option linter.unusedSimpArgs false
set_option linter.unnecessarySimpa false
namespace Go.Rl
open Go

/-- A region that draws its order, in progress: what is to come, in our order; what may be still to come in the machine's. -/
structure AnyR where
  ops : Array Oper
  rest : List Nat
  pend : List Nat
  resv : List (Nat × Nat)

structure SFr where
  f : FuncId
  tmps : List SV
  gd : List (Tmp × Bool)
  cur : Option AnyR
  todo : List Item

structure SS where
  frames : List SFr
  heap : List SO

/-! ### orders -/

def edgesL (o : Oper) : List Nat := (o.after.toList.filter (Region.binds .any)).map fun e => e.on

/-- Of each operation those that are ahead of it in every order, as bits. -/
def beforesFrom : List Oper → List Nat → List Nat
  | [], acc => acc
  | o :: r, acc => beforesFrom r (acc ++ [(edgesL o).foldl (fun s d => s ||| (2 ^ d) ||| acc.getD d 0) 0])

def befores (ops : List Oper) : List Nat := beforesFrom ops []

/-- 0: it turns no memory and needs no room; 1: it makes a block; 2: the others. -/
def opKind : Op → Nat
  | .move _ | .pick .. | .load .. | .nilCheck _ | .fieldAddr .. | .field .. | .extract .. | .build .. | .makeFunc .. | .makeInterface .. | .unOp .. | .binOp .. | .indexAddr .. | .index .. | .slice .. | .typeAssert .. => 0
  | .call { callee := .builtin .len, .. } => 0
  | .alloc _ | .box .. | .buildSlice .. | .makeSlice .. => 1
  | _ => 2

/-- Levels: behind how many of kind 2 an operation comes first. -/
def levels : List Oper → (h : Nat) → List (Nat × Bool) → List (Nat × Bool)
  | [], _, acc => acc
  | o :: r, h, acc =>
    match opKind o.op with
    | 2 => levels r (h + 1) (acc ++ [(h, true)])
    | _ =>
      let l := (edgesL o).foldl (fun m d => match acc.getD d (0, false) with | (l, true) => max m (l + 1) | (l, false) => max m l) 0
      levels r h (acc ++ [(l, false)])

def atLevel (lv : List (Nat × Bool)) (l : Nat) (hard : Bool) : List Nat :=
  (lv.zipIdx.filter fun x => Nat.beq x.1.1 l && (x.1.2 == hard)).map fun x => x.2

def norderFrom (lv : List (Nat × Bool)) : (fuel l : Nat) → List Nat
  | 0, _ => []
  | n + 1, l => atLevel lv l false ++ (atLevel lv l true ++ norderFrom lv n (l + 1))

def norder (ops : List Oper) : List Nat :=
  let lv := levels ops 0 []
  norderFrom lv (ops.length + 1) 0

def readsOf (ops : List Oper) (o : Oper) : List Tmp :=
  (o.op.operands.toList.filterMap fun x => match x with | .tmp t => some t | _ => none) ++
  (match o.guard with
   | some (g, _) => ((ops[g]?).bind fun x => x.dst).toList
   | none => [])

/-- Every operation that stands behind a hard one in our order is behind it in all orders. -/
def hardOK (ops : List Oper) (bf : List Nat) : List Nat → Bool
  | [] => true
  | i :: r => (match ops[i]? with
      | some o => (match opKind o.op with
        | 2 => r.all fun j => (bf.getD j 0).testBit i
        | _ => true)
      | none => false) && hardOK ops bf r

/-- An assignment that is wanted in any case. -/
def asgB (o : Oper) : Bool :=
  match o.op, o.guard with
  | .assign _, none => true
  | _, _ => false

def dstOK (ops : List Oper) (bf : List Nat) : Bool :=
  ops.zipIdx.all fun (o, i) => match o.dst with
    | none => true
    | some d => ops.zipIdx.all fun (q, j) =>
        (Nat.beq i j && !((readsOf ops q).contains d)) ||
          (!(Nat.beq i j) && (match q.dst with | some e => !(Nat.beq d e) | none => true) && (!((readsOf ops q).contains d) || ((bf.getD j 0).testBit i || (asgB o && (bf.getD i 0).testBit j))))

def nodupB : List Nat → Bool
  | [] => true
  | i :: r => !(r.contains i) && nodupB r

def isPerm (n : Nat) (l : List Nat) : Bool := (l.all fun i => Nat.blt i n) && nodupB l && (List.range n).all fun i => l.contains i

def edgesOK (ops : List Oper) : Bool := ops.zipIdx.all fun (o, i) => (edgesL o).all fun d => Nat.blt d i

def topoOK (ops : List Oper) (bf : List Nat) : List Nat → Bool
  | [] => true
  | i :: r => (!((bf.getD i 0).testBit i) && r.all fun j => !((bf.getD i 0).testBit j)) && topoOK ops bf r

/-- A region may be gone through in our order. -/
def regionOK (ops : List Oper) : Bool :=
  let bf := befores ops
  let n := norder ops
  edgesOK ops && isPerm ops.length n && hardOK ops bf n && topoOK ops bf n && dstOK ops bf

section
variable (P : Program)

/-- Whether an operation is wanted; none: that hangs on a Bool that is not decided. -/
inductive Wd where
  | yes
  | no
  | ask (t : Tmp) (c : Bool)
  | lost

def wantedS (ops : Array Oper) (tm : List SV) (gd : List (Tmp × Bool)) (o : Oper) : Wd :=
  match o.guard with
  | none => .yes
  | some (j, want) =>
    match (ops[j]?).bind fun x => x.dst with
    | none => .no
    | some t =>
      match tm.getD t (.tp []) with
      | .b b => if b == want then .yes else .no
      | .tp _ => .no
      | .v (.bool q) => (match gd.lookup t with | some d => if d == want then .yes else .no | none => .ask t q)
      | _ => .lost

/-- An operation, where some Bools are decided. -/
def sopG (H : List SO) (tm : List SV) (gd : List (Tmp × Bool)) (o : Oper) : OR :=
  match o.op with
  | .pick (.tmp t) a b =>
    (match tm.getD t (.tp []) with
    | .v (.bool q) => (match gd.lookup t with | some d => .val (if d then sval tm a else sval tm b) | none => .br t q)
    | _ => sop P H tm o)
  | _ => sop P H tm o

def heldOf (fr : SFr) : List (Nat × Nat × Nat) :=
  match fr.cur with
  | none => []
  | some ar => ar.pend.filterMap fun u =>
    (ar.ops[u]?).bind fun o => match o.op with
      | .load t a => (match sval fr.tmps a with | .p n off => (tsz P t).map fun sz => (n, off, sz) | _ => none)
      | _ => none

def clear (held : List (Nat × Nat × Nat)) (n off sz : Nat) : Bool :=
  held.all fun (m, o, s) => !(Nat.beq m n) || (Nat.ble (o + s) off && Nat.blt o off) || Nat.ble (off + sz) o

/-- Where an operation stores. -/
def wrote (tm : List SV) (o : Oper) : Option (Nat × Nat × Nat) :=
  match o.op with
  | .store t a _ => (match sval tm a with | .p n off => (tsz P t).map fun sz => (n, off, sz) | _ => none)
  | _ => none

def storeClear (frames : List SFr) (tm : List SV) (o : Oper) : Bool :=
  match wrote P tm o with
  | some (n, off, sz) => frames.all fun fr => clear (heldOf P fr) n off sz
  | none => false

def SFr.setT (fr : SFr) (d : Option Tmp) (x : SV) : SFr :=
  match d with
  | some t => { fr with tmps := fr.tmps.set t x, gd := fr.gd.filter fun q => !(Nat.beq q.1 t) }
  | none => fr

/-- A block that is there, for sure, from now on. -/
def liven (H : List SO) (n : Nat) : List SO :=
  match H[n]? with
  | some (.row false ks rest T) => H.set n (.row true ks rest T)
  | _ => H

def livenAll : List SO → List (Nat × Nat) → List SO
  | H, [] => H
  | H, (_, n) :: r => livenAll (liven H n) r

inductive SRes where
  | next (S : SS)
  | br (c : Bool) (St Sf : SS)
  | done (x : SV) (H : List SO)
  | stop

def enterS (f : FuncId) (args : List SV) : Option SFr :=
  (P.funcs[f]?).bind fun fn => fn.body.map fun c =>
    { f := f, tmps := args ++ List.replicate (fn.ntmps - args.length) (.tp []), gd := [], cur := none, todo := [.code c] }

def resS (H : List SO) (tm : List SV) : List ResultVar → Option (List SV)
  | [] => some []
  | .tmp t :: r => (resS H tm r).map fun l => tm.getD t (.tp []) :: l
  | .cell a t :: r => (match tm.getD a (.tp []) with | .p n off => sload P H t n off | _ => none).bind fun x => (resS H tm r).map fun l => x :: l

def oneOf : List SV → SV
  | [x] => x
  | l => .tp l

/-- A result comes back to who called. -/
def finishS (x : SV) (fr : SFr) : Option SFr :=
  match fr.cur with
  | some ar =>
    (match ar.rest with
    | i :: r => (ar.ops[i]?).map fun o => { fr.setT o.dst x with cur := some { ar with rest := r } }
    | [] => none)
  | none =>
    match fr.todo with
    | .inRegion ops (i :: r) :: k => (ops[i]?).map fun o => { fr.setT o.dst x with todo := .inRegion ops r :: k }
    | _ => none

def retS (H : List SO) (fr : SFr) (cs : List SFr) : SRes :=
  match ((P.funcs[fr.f]?).bind fun fn => resS P H fr.tmps fn.results.toList) with
  | none => .stop
  | some l =>
    match cs with
    | [] => .done (oneOf l) H
    | c :: cs => (match finishS (oneOf l) c with | some c' => .next ⟨c' :: cs, H⟩ | none => .stop)

/-- May a function be gone into here? -/
abbrev Stops := FuncId → Bool

/-- A Bool in a slot is to be decided. -/
def askB (H : List SO) (fr : SFr) (cs : List SFr) (t : Tmp) : SRes :=
  match fr.tmps.getD t (.tp []), fr.gd.lookup t with
  | .v (.bool q), none => .br q ⟨{ fr with gd := (t, true) :: fr.gd } :: cs, H⟩ ⟨{ fr with gd := (t, false) :: fr.gd } :: cs, H⟩
  | _, _ => .stop

def plainOp (st : Stops) (H : List SO) (fr : SFr) (cs : List SFr) (ops : Array Oper) (i : Nat) (r : List Nat) (k : List Item) : SRes :=
  match ops[i]? with
  | none => .next ⟨{ fr with todo := .inRegion ops r :: k } :: cs, H⟩
  | some o =>
    match wantedS ops fr.tmps fr.gd o with
    | .lost => .stop
    | .ask t _ => askB H fr cs t
    | .no => .next ⟨{ fr.setT o.dst (.tp []) with todo := .inRegion ops r :: k } :: cs, H⟩
    | .yes =>
      match sopG P H fr.tmps fr.gd o with
      | .val x => .next ⟨{ fr.setT o.dst x with todo := .inRegion ops r :: k } :: cs, H⟩
      | .br t _ => askB H fr cs t
      | .need c x => .br c ⟨{ fr.setT o.dst x with todo := .inRegion ops r :: k } :: cs, H⟩ ⟨fr :: cs, H⟩
      | .new nk ks T => .next ⟨{ fr.setT o.dst (nk.sv H.length) with todo := .inRegion ops r :: k } :: cs, H ++ [.row true ks [] T]⟩
      | .heap H' => if storeClear P cs fr.tmps o then .next ⟨{ fr.setT o.dst (.tp []) with todo := .inRegion ops r :: k } :: cs, H'⟩ else .stop
      | .map q => .next ⟨{ fr.setT o.dst (.mp H.length) with todo := .inRegion ops r :: k } :: cs, H ++ [.obj q]⟩
      | .hobj n q =>
        (match H[n]? with
        | some (.obj _) => .next ⟨{ fr.setT o.dst (.tp []) with todo := .inRegion ops r :: k } :: cs, H.set n (.obj q)⟩
        | _ => .stop)
      | .enter f args => if st f then .stop else (match enterS P f args with | some g => .next ⟨g :: fr :: cs, H⟩ | none => .stop)
      | .stop => .stop

def anyOp (st : Stops) (H : List SO) (fr : SFr) (cs : List SFr) (ar : AnyR) (i : Nat) (r : List Nat) : SRes :=
  match ar.ops[i]? with
  | none => .stop
  | some o =>
    match wantedS ar.ops fr.tmps fr.gd o with
    | .lost => .stop
    | .ask t _ => askB H fr cs t
    | .no => .next ⟨{ fr.setT o.dst (.tp []) with cur := some { ar with rest := r, pend := i :: ar.pend } } :: cs, H⟩
    | .yes =>
      match opKind o.op with
      | 0 =>
        (match sopG P H fr.tmps fr.gd o with
        | .val x => .next ⟨{ fr.setT o.dst x with cur := some { ar with rest := r, pend := i :: ar.pend } } :: cs, H⟩
        | .br t _ => askB H fr cs t
        | .need c x => .br c ⟨{ fr.setT o.dst x with cur := some { ar with rest := r, pend := i :: ar.pend } } :: cs, H⟩ ⟨fr :: cs, H⟩
        | _ => .stop)
      | 1 =>
        (match sopG P H fr.tmps fr.gd o, o.dst with
        | .new nk ks T, some d =>
          if Nat.blt d fr.tmps.length then
            .next ⟨{ fr.setT (some d) (nk.sv H.length) with cur := some { ar with rest := r, resv := (i, H.length) :: ar.resv } } :: cs, H ++ [.row false ks [] T]⟩
          else .stop
        | _, _ => .stop)
      | _ =>
        -- what is ahead of it in all orders is done
        let b := (befores ar.ops.toList).getD i 0
        if (ar.pend.any fun u => b.testBit u) || (ar.resv.any fun u => b.testBit u.1) then
          .next ⟨{ fr with cur := some { ar with pend := ar.pend.filter (fun u => !b.testBit u), resv := ar.resv.filter (fun u => !b.testBit u.1) } } :: cs,
            livenAll H (ar.resv.filter fun u => b.testBit u.1)⟩
        else
          (match sopG P H fr.tmps fr.gd o with
          | .heap H' => if storeClear P (fr :: cs) fr.tmps o then .next ⟨{ fr.setT o.dst (.tp []) with cur := some { ar with rest := r } } :: cs, H'⟩ else .stop
          | .enter f args => if st f then .stop else (match enterS P f args with | some g => .next ⟨g :: fr :: cs, H⟩ | none => .stop)
          | .val x => .next ⟨{ fr.setT o.dst x with cur := some { ar with rest := r } } :: cs, H⟩
          | .need c x => .br c ⟨{ fr.setT o.dst x with cur := some { ar with rest := r } } :: cs, H⟩ ⟨fr :: cs, H⟩
          | _ => .stop)

def sstep (st : Stops) (S : SS) : SRes :=
  match S.frames with
  | [] => .stop
  | fr :: cs =>
    match fr.cur with
    | some ar =>
      (match ar.rest with
      | [] => .next ⟨{ fr with cur := none } :: cs, livenAll S.heap ar.resv⟩
      | i :: r => anyOp P st S.heap fr cs ar i r)
    | none =>
      match fr.todo with
      | [] => retS P S.heap fr cs
      | .code .ret :: _ => retS P S.heap fr cs
      | .code .skip :: k => .next ⟨{ fr with todo := k } :: cs, S.heap⟩
      | .code (.label _) :: k => .next ⟨{ fr with todo := k } :: cs, S.heap⟩
      | .inBlock _ :: k => .next ⟨{ fr with todo := k } :: cs, S.heap⟩
      | .inScope _ :: k => .next ⟨{ fr with todo := k } :: cs, S.heap⟩
      | .code (.seq a b) :: k => .next ⟨{ fr with todo := .code a :: .code b :: k } :: cs, S.heap⟩
      | .code (.cond c x y) :: k =>
        (match sval fr.tmps c with
        | .b true => .next ⟨{ fr with todo := .code x :: k } :: cs, S.heap⟩
        | .b false => .next ⟨{ fr with todo := .code y :: k } :: cs, S.heap⟩
        | .v (.bool q) => .br q ⟨{ fr with todo := .code x :: k } :: cs, S.heap⟩ ⟨{ fr with todo := .code y :: k } :: cs, S.heap⟩
        | _ => .stop)
      | .code (.block id c) :: k => .next ⟨{ fr with todo := .code c :: .inBlock id :: k } :: cs, S.heap⟩
      | .code (.loop c) :: k => .next ⟨{ fr with todo := .code c :: .inLoop c :: k } :: cs, S.heap⟩
      | .inLoop c :: k => .next ⟨{ fr with todo := .code c :: .inLoop c :: k } :: cs, S.heap⟩
      | .code (.scope c) :: k => .next ⟨{ fr with todo := .code c :: .inScope c :: k } :: cs, S.heap⟩
      | .code (.exit id) :: k => (match exitTo id k with | some k' => .next ⟨{ fr with todo := k' } :: cs, S.heap⟩ | none => .stop)
      | .code (.goto l) :: k => (match gotoIn l k with | some k' => .next ⟨{ fr with todo := k' } :: cs, S.heap⟩ | none => .stop)
      | .code (.region _ ops false) :: k => .next ⟨{ fr with todo := .inRegion ops (List.range ops.size) :: k } :: cs, S.heap⟩
      | .code (.region _ ops true) :: k =>
        if regionOK ops.toList then .next ⟨{ fr with cur := some ⟨ops, norder ops.toList, [], []⟩, todo := k } :: cs, S.heap⟩ else .stop
      | .inRegion _ [] :: k => .next ⟨{ fr with todo := k } :: cs, S.heap⟩
      | .inRegion ops (i :: r) :: k => plainOp P st S.heap fr cs ops i r k
      | _ => .stop

/-- How far it goes: with decisions for the Bools that it meets. -/
inductive AR where
  | at (obs : List (Bool × Bool)) (S : SS)
  | done (obs : List (Bool × Bool)) (x : SV) (H : List SO)

def adv (st : Stops) : Nat → List Bool → List (Bool × Bool) → SS → AR
  | 0, _, obs, S => .at obs S
  | n + 1, ds, obs, S =>
    match sstep P st S with
    | .next S' => adv st n ds obs S'
    | .br c St Sf =>
      (match ds with
      | [] => .at obs S
      | true :: ds => adv st n ds ((c, true) :: obs) St
      | false :: ds => adv st n ds ((c, false) :: obs) Sf)
    | .done x H => .done obs x H
    | .stop => .at obs S

end
end Go.Rl
