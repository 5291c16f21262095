/-
  States that are written out: where in a program's text a frame stands.
-/
import Derived.Test.YtghmpcnchjjikaaGreatRlSs
set_option linter.all false
set_option linter.unusedVariables false
set_option linter.unusedSimpArgs false
set_option linter.unnecessarySimpa false
namespace Go.Rl
open Go

/-- A part of a text. -/
def codeAt : Code → List Nat → Code
  | c, [] => c
  | .seq a b, i :: p => (match i with | 0 => codeAt a p | _ => codeAt b p)
  | .cond _ a b, i :: p => (match i with | 0 => codeAt a p | _ => codeAt b p)
  | .block _ b, _ :: p => codeAt b p
  | .loop b, _ :: p => codeAt b p
  | .scope b, _ :: p => codeAt b p
  | _, _ :: _ => .skip
def opsOf : Code → Array Oper
  | .region _ ops _ => ops
  | _ => #[]
def bodyOf (P : Program) (f : FuncId) : Code :=
  match P.funcs[f]? with
  | some fn => (match fn.body with | some c => c | none => .skip)
  | none => .skip
def cA (P : Program) (f : FuncId) (p : List Nat) : Code := codeAt (bodyOf P f) p
def oA (P : Program) (f : FuncId) (p : List Nat) : Array Oper := opsOf (cA P f p)
/-- Slots: those that are told, the others empty. -/
def slots : Nat → List SV → List SV
  | 0, _ => []
  | n + 1, [] => .tp [] :: slots n []
  | n + 1, x :: r => x :: slots n r
end Go.Rl
