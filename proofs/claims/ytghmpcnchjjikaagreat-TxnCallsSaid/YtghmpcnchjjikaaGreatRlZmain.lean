/-
  'TxnCalls', up to its loop.
-/
import Derived.Test.YtghmpcnchjjikaaGreatRlZns
import Derived.Test.YtghmpcnchjjikaaGreatRlZis
import Derived.Test.YtghmpcnchjjikaaGreatRlZaw
set_option linter.all false
set_option linter.unusedVariables false
set_option linter.unusedSimpArgs false
set_option linter.unnecessarySimpa false
open Go Go.Rl
namespace Go.Rl.Z
set_option maxRecDepth 100000
def stM : Stops := fun k => Nat.beq k 5 || (Nat.beq k 10 || (Nat.beq k 12 || (Nat.beq k 13 || Nat.beq k 14)))
def actsV (base : Option Addr) (n cap : Nat) : Value := .slice base n cap
noncomputable def tS0 (a b t r h c : Int) (base : Option Addr) (n cap : Nat) : SS := sOf Pr 3 [limS a b t r h c, .v (.slice base n cap)] []
noncomputable def go (S : SS) (ds : List Bool) : AR := adv Pr stM 3000 ds [] S
noncomputable def bh (S : SS) (y : SV) : SS := behind S y S.heap
section
variable (a b t r h c : Int) (base : Option Addr) (n cap : Nat)
noncomputable def tA1 : SS := (go (tS0 a b t r h c base n cap) [true]).st
noncomputable def tA2 : SS := (go (tS0 a b t r h c base n cap) [false, true]).st
noncomputable def tA3 : SS := (go (tS0 a b t r h c base n cap) [false, false, true]).st
noncomputable def tS1 : SS := (go (tS0 a b t r h c base n cap) [false, false, false]).st
noncomputable def tS2 : SS := (go (bh (tS1 a b t r h c base n cap) (.b true)) []).st
noncomputable def tS3 (y : SV) : SS := (go (bh (tS2 a b t r h c base n cap) y) []).st
noncomputable def tS4 (y : SV) : SS := (go (bh (tS3 a b t r h c base n cap y) (.b true)) []).st
/-- made -/
noncomputable def tE1 (p q : Addr) : SS := (go (bh (tS4 a b t r h c base n cap (.tp [.ag [.v (.pointer (some p)), .v (.pointer (some q))], .ni])) (.b true)) []).st
/-- not made -/
noncomputable def tS5 : SS := (go (bh (tS4 a b t r h c base n cap (.tp [.ag [.np, .np], .ifc 40 (.i .i64 1)])) (.b false)) []).st
noncomputable def tE2 : SS := (go (bh (tS5 a b t r h c base n cap) (.b true)) []).st
theorem t0 : entersB Pr 3 [limS a b t r h c, .v (.slice base n cap)] = true := by kernel_rfl
theorem t1 : (go (tS0 a b t r h c base n cap) [true]).atObs = some [(decide ((n : Int) > 20), true)] := by kernel_rfl
theorem t1c : calleeAt Pr (tA1 a b t r h c base n cap) = some (5, []) := by kernel_rfl
theorem t1e : (go (bh (tA1 a b t r h c base n cap) (.b true)) []).val = some ([], .b true) := by kernel_rfl
theorem t2 : (go (tS0 a b t r h c base n cap) [false, true]).atObs = some [(decide (a > 300), true), (decide ((n : Int) > 20), false)] := by kernel_rfl
theorem t2c : calleeAt Pr (tA2 a b t r h c base n cap) = some (5, []) := by kernel_rfl
theorem t2e : (go (bh (tA2 a b t r h c base n cap) (.b true)) []).val = some ([], .b true) := by kernel_rfl
theorem t3 : (go (tS0 a b t r h c base n cap) [false, false, true]).atObs = some [(decide (b > 60), true), (decide (a > 300), false), (decide ((n : Int) > 20), false)] := by kernel_rfl
theorem t3c : calleeAt Pr (tA3 a b t r h c base n cap) = some (5, []) := by kernel_rfl
theorem t3e : (go (bh (tA3 a b t r h c base n cap) (.b true)) []).val = some ([], .b true) := by kernel_rfl
theorem t4 : (go (tS0 a b t r h c base n cap) [false, false, false]).atObs = some [(decide (b > 60), false), (decide (a > 300), false), (decide ((n : Int) > 20), false)] := by kernel_rfl
theorem t4c : calleeAt Pr (tS1 a b t r h c base n cap) = some (10, [.ifc 40 (.i .i64 1), .i .i64 1]) := by kernel_rfl
theorem t5 : (go (bh (tS1 a b t r h c base n cap) (.b true)) []).atObs = some [] := by kernel_rfl
theorem t5c : calleeAt Pr (tS2 a b t r h c base n cap) = some (12, [limS a b t r h c]) := by kernel_rfl
theorem t6a (p q : Addr) : (go (bh (tS2 a b t r h c base n cap) (.tp [.ag [.v (.pointer (some p)), .v (.pointer (some q))], .ni])) []).atObs = some [] := by kernel_rfl
theorem t6b : (go (bh (tS2 a b t r h c base n cap) (.tp [.ag [.np, .np], .ifc 40 (.i .i64 1)])) []).atObs = some [] := by kernel_rfl
theorem t6ac (p q : Addr) : calleeAt Pr (tS3 a b t r h c base n cap (.tp [.ag [.v (.pointer (some p)), .v (.pointer (some q))], .ni])) = some (10, [.ifc 40 (.i .i64 13), .i .i64 13]) := by kernel_rfl
theorem t6bc : calleeAt Pr (tS3 a b t r h c base n cap (.tp [.ag [.np, .np], .ifc 40 (.i .i64 1)])) = some (10, [.ifc 40 (.i .i64 13), .i .i64 13]) := by kernel_rfl
theorem t7a (p q : Addr) : (go (bh (tS3 a b t r h c base n cap (.tp [.ag [.v (.pointer (some p)), .v (.pointer (some q))], .ni])) (.b true)) []).atObs = some [] := by kernel_rfl
theorem t7b : (go (bh (tS3 a b t r h c base n cap (.tp [.ag [.np, .np], .ifc 40 (.i .i64 1)])) (.b true)) []).atObs = some [] := by kernel_rfl
theorem t7ac (p q : Addr) : calleeAt Pr (tS4 a b t r h c base n cap (.tp [.ag [.v (.pointer (some p)), .v (.pointer (some q))], .ni])) = some (13, [limS a b t r h c]) := by kernel_rfl
theorem t7bc : calleeAt Pr (tS4 a b t r h c base n cap (.tp [.ag [.np, .np], .ifc 40 (.i .i64 1)])) = some (13, [limS a b t r h c]) := by kernel_rfl
theorem t8a (p q : Addr) : (go (bh (tS4 a b t r h c base n cap (.tp [.ag [.v (.pointer (some p)), .v (.pointer (some q))], .ni])) (.b true)) []).atObs = some [] := by kernel_rfl
theorem t8b : (go (bh (tS4 a b t r h c base n cap (.tp [.ag [.np, .np], .ifc 40 (.i .i64 1)])) (.b false)) []).atObs = some [] := by kernel_rfl
theorem t8bc : calleeAt Pr (tS5 a b t r h c base n cap) = some (10, [.ifc 40 (.i .i64 1), .i .i64 1]) := by kernel_rfl
theorem t9b : (go (bh (tS5 a b t r h c base n cap) (.b true)) []).atObs = some [] := by kernel_rfl
end
end Go.Rl.Z
