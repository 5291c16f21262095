/-
  'TxnCalls': the other half of its loop.
-/
import Derived.Test.YtghmpcnchjjikaaGreatRlZloop
set_option linter.all false
set_option linter.unusedVariables false
set_option linter.unusedSimpArgs false
set_option linter.unnecessarySimpa false
open Go Go.Rl
namespace Go.Rl.Z
set_option maxRecDepth 100000
def stN : Stops := fun k => Nat.beq k 5 || Nat.beq k 10
noncomputable def goN (S : SS) (ds : List Bool) : AR := adv Pr stN 3000 ds [] S
section
variable (a b t r h c : Int) (n cap : Nat) (ad : Addr) (j : Nat → Value) (i : Int) (k : Int) (rd : Bool) (ky vl lo hi : ByteArray) (ub : Bool) (lm : Int) (rv : Bool)
noncomputable def tL6 : SS := bh (tL5 a b t r h c n cap ad j i k rd ky vl lo hi ub lm rv) (.b true)
noncomputable def tM1 : SS := (goN (tL6 a b t r h c n cap ad j i k rd ky vl lo hi ub lm rv) [true, true, true]).st
theorem m1 : (goN (tL6 a b t r h c n cap ad j i k rd ky vl lo hi ub lm rv) [true, true, true]).atObs = some [(decide (k ≤ 8), true), (decide (k ≥ 1), true), (k == 1, true)] := by kernel_rfl
theorem m1c : calleeAt Pr (tM1 a b t r h c n cap ad j i k rd ky vl lo hi ub lm rv) = some (10, [.ifc 40 (.i .i64 11), .i .i64 11]) := by kernel_rfl
theorem m1h (j' : Nat → Value) (jc : Nat → Nat → Value) : canonS [] keepSl j' jc (goN (bh (tM1 a b t r h c n cap ad j i k rd ky vl lo hi ub lm rv) (.b true)) []).st = some (tH a b t r h c (some ad) n cap j' (IntKind.i64.wrap (i + 1))) := by kernel_rfl
theorem m1o : (goN (bh (tM1 a b t r h c n cap ad j i k rd ky vl lo hi ub lm rv) (.b true)) []).atObs = some [] := by kernel_rfl
noncomputable def tM2 : SS := (goN (tL6 a b t r h c n cap ad j i k rd ky vl lo hi ub lm rv) [false, true, true, true]).st
theorem m2 : (goN (tL6 a b t r h c n cap ad j i k rd ky vl lo hi ub lm rv) [false, true, true, true]).atObs = some [(decide (k ≤ 8), true), (decide (k ≥ 1), true), (k == 2, true), (k == 1, false)] := by kernel_rfl
theorem m2c : calleeAt Pr (tM2 a b t r h c n cap ad j i k rd ky vl lo hi ub lm rv) = some (10, [.ifc 40 (.i .i64 11), .i .i64 11]) := by kernel_rfl
theorem m2h (j' : Nat → Value) (jc : Nat → Nat → Value) : canonS [] keepSl j' jc (goN (bh (tM2 a b t r h c n cap ad j i k rd ky vl lo hi ub lm rv) (.b true)) []).st = some (tH a b t r h c (some ad) n cap j' (IntKind.i64.wrap (i + 1))) := by kernel_rfl
theorem m2o : (goN (bh (tM2 a b t r h c n cap ad j i k rd ky vl lo hi ub lm rv) (.b true)) []).atObs = some [] := by kernel_rfl
noncomputable def tM3 : SS := (goN (tL6 a b t r h c n cap ad j i k rd ky vl lo hi ub lm rv) [false, false, true, true, true]).st
theorem m3 : (goN (tL6 a b t r h c n cap ad j i k rd ky vl lo hi ub lm rv) [false, false, true, true, true]).atObs = some [(decide (k ≤ 8), true), (decide (k ≥ 1), true), (k == 3, true), (k == 2, false), (k == 1, false)] := by kernel_rfl
theorem m3c : calleeAt Pr (tM3 a b t r h c n cap ad j i k rd ky vl lo hi ub lm rv) = some (10, [.ifc 40 (.i .i64 11), .i .i64 11]) := by kernel_rfl
theorem m3h (j' : Nat → Value) (jc : Nat → Nat → Value) : canonS [] keepSl j' jc (goN (bh (tM3 a b t r h c n cap ad j i k rd ky vl lo hi ub lm rv) (.b true)) []).st = some (tH a b t r h c (some ad) n cap j' (IntKind.i64.wrap (i + 1))) := by kernel_rfl
theorem m3o : (goN (bh (tM3 a b t r h c n cap ad j i k rd ky vl lo hi ub lm rv) (.b true)) []).atObs = some [] := by kernel_rfl
noncomputable def tM4 : SS := (goN (tL6 a b t r h c n cap ad j i k rd ky vl lo hi ub lm rv) [false, false, false, true, true, true]).st
theorem m4 : (goN (tL6 a b t r h c n cap ad j i k rd ky vl lo hi ub lm rv) [false, false, false, true, true, true]).atObs = some [(decide (k ≤ 8), true), (decide (k ≥ 1), true), (k == 4, true), (k == 3, false), (k == 2, false), (k == 1, false)] := by kernel_rfl
theorem m4c : calleeAt Pr (tM4 a b t r h c n cap ad j i k rd ky vl lo hi ub lm rv) = some (10, [.ifc 40 (.i .i64 11), .i .i64 11]) := by kernel_rfl
theorem m4h (j' : Nat → Value) (jc : Nat → Nat → Value) : canonS [] keepSl j' jc (goN (bh (tM4 a b t r h c n cap ad j i k rd ky vl lo hi ub lm rv) (.b true)) []).st = some (tH a b t r h c (some ad) n cap j' (IntKind.i64.wrap (i + 1))) := by kernel_rfl
theorem m4o : (goN (bh (tM4 a b t r h c n cap ad j i k rd ky vl lo hi ub lm rv) (.b true)) []).atObs = some [] := by kernel_rfl
noncomputable def tM5 : SS := (goN (tL6 a b t r h c n cap ad j i k rd ky vl lo hi ub lm rv) [false, false, false, false, true, true, true]).st
theorem m5 : (goN (tL6 a b t r h c n cap ad j i k rd ky vl lo hi ub lm rv) [false, false, false, false, true, true, true]).atObs = some [(decide (k ≤ 8), true), (decide (k ≥ 1), true), (k == 5, true), (k == 4, false), (k == 3, false), (k == 2, false), (k == 1, false)] := by kernel_rfl
theorem m5c : calleeAt Pr (tM5 a b t r h c n cap ad j i k rd ky vl lo hi ub lm rv) = some (10, [.ifc 40 (.i .i64 11), .i .i64 11]) := by kernel_rfl
theorem m5h (j' : Nat → Value) (jc : Nat → Nat → Value) : canonS [] keepSl j' jc (goN (bh (tM5 a b t r h c n cap ad j i k rd ky vl lo hi ub lm rv) (.b true)) []).st = some (tH a b t r h c (some ad) n cap j' (IntKind.i64.wrap (i + 1))) := by kernel_rfl
theorem m5o : (goN (bh (tM5 a b t r h c n cap ad j i k rd ky vl lo hi ub lm rv) (.b true)) []).atObs = some [] := by kernel_rfl
noncomputable def tM6 : SS := (goN (tL6 a b t r h c n cap ad j i k rd ky vl lo hi ub lm rv) [false, false, false, false, false, true, true, true]).st
theorem m6 : (goN (tL6 a b t r h c n cap ad j i k rd ky vl lo hi ub lm rv) [false, false, false, false, false, true, true, true]).atObs = some [(decide (k ≤ 8), true), (decide (k ≥ 1), true), (k == 6, true), (k == 5, false), (k == 4, false), (k == 3, false), (k == 2, false), (k == 1, false)] := by kernel_rfl
theorem m6c : calleeAt Pr (tM6 a b t r h c n cap ad j i k rd ky vl lo hi ub lm rv) = some (10, [.ifc 40 (.i .i64 11), .i .i64 11]) := by kernel_rfl
theorem m6h (j' : Nat → Value) (jc : Nat → Nat → Value) : canonS [] keepSl j' jc (goN (bh (tM6 a b t r h c n cap ad j i k rd ky vl lo hi ub lm rv) (.b true)) []).st = some (tH a b t r h c (some ad) n cap j' (IntKind.i64.wrap (i + 1))) := by kernel_rfl
theorem m6o : (goN (bh (tM6 a b t r h c n cap ad j i k rd ky vl lo hi ub lm rv) (.b true)) []).atObs = some [] := by kernel_rfl
noncomputable def tM7 : SS := (goN (tL6 a b t r h c n cap ad j i k rd ky vl lo hi ub lm rv) [false, false, false, false, false, false, true, true, true]).st
theorem m7 : (goN (tL6 a b t r h c n cap ad j i k rd ky vl lo hi ub lm rv) [false, false, false, false, false, false, true, true, true]).atObs = some [(decide (k ≤ 8), true), (decide (k ≥ 1), true), (k == 7, true), (k == 6, false), (k == 5, false), (k == 4, false), (k == 3, false), (k == 2, false), (k == 1, false)] := by kernel_rfl
theorem m7c : calleeAt Pr (tM7 a b t r h c n cap ad j i k rd ky vl lo hi ub lm rv) = some (10, [.ifc 40 (.i .i64 11), .i .i64 11]) := by kernel_rfl
theorem m7h (j' : Nat → Value) (jc : Nat → Nat → Value) : canonS [] keepSl j' jc (goN (bh (tM7 a b t r h c n cap ad j i k rd ky vl lo hi ub lm rv) (.b true)) []).st = some (tH a b t r h c (some ad) n cap j' (IntKind.i64.wrap (i + 1))) := by kernel_rfl
theorem m7o : (goN (bh (tM7 a b t r h c n cap ad j i k rd ky vl lo hi ub lm rv) (.b true)) []).atObs = some [] := by kernel_rfl
noncomputable def tM8 : SS := (goN (tL6 a b t r h c n cap ad j i k rd ky vl lo hi ub lm rv) [false, false, false, false, false, false, false, true, true, true]).st
theorem m8 : (goN (tL6 a b t r h c n cap ad j i k rd ky vl lo hi ub lm rv) [false, false, false, false, false, false, false, true, true, true]).atObs = some [(decide (k ≤ 8), true), (decide (k ≥ 1), true), (k == 8, true), (k == 7, false), (k == 6, false), (k == 5, false), (k == 4, false), (k == 3, false), (k == 2, false), (k == 1, false)] := by kernel_rfl
theorem m8c : calleeAt Pr (tM8 a b t r h c n cap ad j i k rd ky vl lo hi ub lm rv) = some (10, [.ifc 40 (.i .i64 11), .i .i64 11]) := by kernel_rfl
theorem m8h (j' : Nat → Value) (jc : Nat → Nat → Value) : canonS [] keepSl j' jc (goN (bh (tM8 a b t r h c n cap ad j i k rd ky vl lo hi ub lm rv) (.b true)) []).st = some (tH a b t r h c (some ad) n cap j' (IntKind.i64.wrap (i + 1))) := by kernel_rfl
theorem m8o : (goN (bh (tM8 a b t r h c n cap ad j i k rd ky vl lo hi ub lm rv) (.b true)) []).atObs = some [] := by kernel_rfl
theorem u1 : (goN (tL6 a b t r h c n cap ad j i k rd ky vl lo hi ub lm rv) [false, false, false, false, false, false, false, false, false]).atObs = some [(decide (k ≥ 1), false), (k == 8, false), (k == 7, false), (k == 6, false), (k == 5, false), (k == 4, false), (k == 3, false), (k == 2, false), (k == 1, false)] := by kernel_rfl
theorem u2 (j' : Nat → Value) (jc : Nat → Nat → Value) : canonS [] keepSl j' jc (goN (tL6 a b t r h c n cap ad j i k rd ky vl lo hi ub lm rv) [false, false, false, false, false, false, false, false, false]).st = some (tH a b t r h c (some ad) n cap j' (IntKind.i64.wrap (i + 1))) := by kernel_rfl
theorem v1 : (goN (tL6 a b t r h c n cap ad j i k rd ky vl lo hi ub lm rv) [false, false, false, false, false, false, false, false, true, false]).atObs = some [(decide (k ≤ 8), false), (decide (k ≥ 1), true), (k == 8, false), (k == 7, false), (k == 6, false), (k == 5, false), (k == 4, false), (k == 3, false), (k == 2, false), (k == 1, false)] := by kernel_rfl
theorem v2 (j' : Nat → Value) (jc : Nat → Nat → Value) : canonS [] keepSl j' jc (goN (tL6 a b t r h c n cap ad j i k rd ky vl lo hi ub lm rv) [false, false, false, false, false, false, false, false, true, false]).st = some (tH a b t r h c (some ad) n cap j' (IntKind.i64.wrap (i + 1))) := by kernel_rfl
end
end Go.Rl.Z
