/-
  'TxnCalls': its loop.
-/
import Derived.Test.YtghmpcnchjjikaaGreatRlZmain
import Derived.Test.YtghmpcnchjjikaaGreatRlZas
set_option linter.all false
set_option linter.unusedVariables false
set_option linter.unusedSimpArgs false
set_option linter.unnecessarySimpa false
open Go Go.Rl
namespace Go.Rl.Z
set_option maxRecDepth 100000
def setSl (S : SS) (t : Nat) (x : SV) : SS :=
  match S.frames with
  | [fr] => ⟨[{ fr with tmps := fr.tmps.set t x }], S.heap⟩
  | _ => S
def keepSl : List Nat := (List.range 90).map fun t => match Nat.beq t 5 || (Nat.beq t 86 || Nat.beq t 89) with | true => 0 | false => (match Nat.beq t 87 || Nat.beq t 88 with | true => 1 | false => 2)
noncomputable def orS : Option SS → SS
  | some S => S
  | none => ⟨[], []⟩
section
variable (a b t r h c : Int) (base : Option Addr) (n cap : Nat)
/-- The loop's head, ahead of its test. -/
noncomputable def tH (j : Nat → Value) (i : Int) : SS :=
  setSl (setSl (orS (canonS [] keepSl j (fun _ _ => .nilIface) (tE2 a b t r h c base n cap))) 88 (.v (.int .i64 i))) 89 (.v (.bool (decide (i < (n : Int)))))
theorem h1 (j : Nat → Value) (jc : Nat → Nat → Value) (p q : Addr) : canonS [] keepSl j jc (tE1 a b t r h c base n cap p q) = some (tH a b t r h c base n cap j 0) := by kernel_rfl
theorem h2 (j : Nat → Value) (jc : Nat → Nat → Value) : canonS [] keepSl j jc (tE2 a b t r h c base n cap) = some (tH a b t r h c base n cap j 0) := by kernel_rfl
/-- Behind the loop. -/
noncomputable def tZ (j : Nat → Value) (i : Int) : SS := (go (tH a b t r h c base n cap j i) [false]).st
theorem z1 (j : Nat → Value) (i : Int) : (go (tH a b t r h c base n cap j i) [false]).atObs = some [(decide (i < (n : Int)), false)] := by kernel_rfl
theorem z2 (j : Nat → Value) (i : Int) : calleeAt Pr (tZ a b t r h c base n cap j i) = some (5, []) := by kernel_rfl
theorem z3 (j : Nat → Value) (i : Int) : (go (bh (tZ a b t r h c base n cap j i) (.b true)) []).val = some ([], .b true) := by kernel_rfl
variable (ad : Addr) (j : Nat → Value) (i : Int) (k : Int) (rd : Bool) (ky vl lo hi : ByteArray) (ub : Bool) (lm : Int) (rv : Bool)
noncomputable def tL1 : SS := (go (tH a b t r h c (some ad) n cap j i) [true]).st
theorem l1 : (go (tH a b t r h c (some ad) n cap j i) [true]).atObs = some [(decide (i < (n : Int)), true)] := by kernel_rfl
theorem l1c : elemAt Pr (tL1 a b t r h c n cap ad j i) = some (ad, n, i, 9) := by kernel_rfl
noncomputable def tL2 : SS := (go (bh (tL1 a b t r h c n cap ad j i) (.v (.pointer (some (ad.add (i.toNat * 9)))))) []).st
theorem l2 : (go (bh (tL1 a b t r h c n cap ad j i) (.v (.pointer (some (ad.add (i.toNat * 9)))))) []).atObs = some [] := by kernel_rfl
theorem l2c : immAt Pr (tL2 a b t r h c n cap ad j i) = some (48, ad.add (i.toNat * 9)) := by kernel_rfl
noncomputable def tL3 : SS := bh (tL2 a b t r h c n cap ad j i) (actS k rd ky vl lo hi ub lm rv)
noncomputable def tL4 : SS := (go (tL3 a b t r h c n cap ad j i k rd ky vl lo hi ub lm rv) [false, false, false, false]).st
theorem l3 : (go (tL3 a b t r h c n cap ad j i k rd ky vl lo hi ub lm rv) [false, false, false, false]).atObs = some [(decide ((hi.size : Int) > 100), false), (decide ((lo.size : Int) > 100), false), (decide ((vl.size : Int) > 100), false), (decide ((ky.size : Int) > 100), false)] := by kernel_rfl
theorem l3c : calleeAt Pr (tL4 a b t r h c n cap ad j i k rd ky vl lo hi ub lm rv) = some (14, [.np, actS k rd ky vl lo hi ub lm rv]) := by kernel_rfl
noncomputable def tL5 : SS := (go (bh (tL4 a b t r h c n cap ad j i k rd ky vl lo hi ub lm rv) (.ifc 40 (.i .i64 1))) []).st
theorem l4 : (go (bh (tL4 a b t r h c n cap ad j i k rd ky vl lo hi ub lm rv) (.ifc 40 (.i .i64 1))) []).atObs = some [] := by kernel_rfl
theorem l4c : calleeAt Pr (tL5 a b t r h c n cap ad j i k rd ky vl lo hi ub lm rv) = some (10, [.ifc 40 (.i .i64 1), .i .i64 1]) := by kernel_rfl
end
end Go.Rl.Z
