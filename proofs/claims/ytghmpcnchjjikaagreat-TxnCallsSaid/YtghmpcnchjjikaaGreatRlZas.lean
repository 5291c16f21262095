/-
  What 'asks' tells of a client that is not there.
-/
import Derived.Test.YtghmpcnchjjikaaGreatRlZri
import Derived.Test.YtghmpcnchjjikaaGreatRlSr9
set_option linter.all false
set_option linter.unusedVariables false
set_option linter.unusedSimpArgs false
set_option linter.unnecessarySimpa false
open Go Go.Rl
namespace Go.Rl.Z
set_option maxRecDepth 100000
def actL (k : Int) (rd : Bool) (ky vl lo hi : ByteArray) (ub : Bool) (lm : Int) (rv : Bool) : List Value := [.int .i64 k, .bool rd, .string ky, .string vl, .string lo, .string hi, .bool ub, .int .i64 lm, .bool rv]
def actS (k : Int) (rd : Bool) (ky vl lo hi : ByteArray) (ub : Bool) (lm : Int) (rv : Bool) : SV := .ag [.v (.int .i64 k), .v (.bool rd), .v (.string ky), .v (.string vl), .v (.string lo), .v (.string hi), .v (.bool ub), .v (.int .i64 lm), .v (.bool rv)]
def actV (k : Int) (rd : Bool) (ky vl lo hi : ByteArray) (ub : Bool) (lm : Int) (rv : Bool) : Value := .agg #[.int .i64 k, .bool rd, .string ky, .string vl, .string lo, .string hi, .bool ub, .int .i64 lm, .bool rv]
theorem actS_den (ρ : Rho) (k : Int) (rd : Bool) (ky vl lo hi : ByteArray) (ub : Bool) (lm : Int) (rv : Bool) : (actS k rd ky vl lo hi ub lm rv).den ρ = some (actV k rd ky vl lo hi ub lm rv) := rfl
section
variable (k : Int) (rd : Bool) (ky vl lo hi : ByteArray) (ub : Bool) (lm : Int) (rv : Bool)
noncomputable def asS : SS := sOf Pr 14 [.np, actS k rd ky vl lo hi ub lm rv] []
theorem as0 : entersB Pr 14 [.np, actS k rd ky vl lo hi ub lm rv] = true := by kernel_rfl
theorem as1 : (adv Pr (fun _ => false) 3000 [true] [] (asS k rd ky vl lo hi ub lm rv)).val = some ([(k == 1, true)], .ifc 40 (.i .i64 1)) := by kernel_rfl
theorem as2 : (adv Pr (fun _ => false) 3000 [false, true] [] (asS k rd ky vl lo hi ub lm rv)).val = some ([(k == 2, true), (k == 1, false)], .ifc 40 (.i .i64 1)) := by kernel_rfl
theorem as3 : (adv Pr (fun _ => false) 3000 [false, false, true] [] (asS k rd ky vl lo hi ub lm rv)).val = some ([(k == 3, true), (k == 2, false), (k == 1, false)], .ifc 40 (.i .i64 1)) := by kernel_rfl
theorem as4 : (adv Pr (fun _ => false) 3000 [false, false, false, true] [] (asS k rd ky vl lo hi ub lm rv)).val = some ([(k == 4, true), (k == 3, false), (k == 2, false), (k == 1, false)], .ifc 40 (.i .i64 1)) := by kernel_rfl
theorem as5 : (adv Pr (fun _ => false) 3000 [false, false, false, false, true] [] (asS k rd ky vl lo hi ub lm rv)).val = some ([(k == 5, true), (k == 4, false), (k == 3, false), (k == 2, false), (k == 1, false)], .ifc 40 (.i .i64 1)) := by kernel_rfl
theorem as6 : (adv Pr (fun _ => false) 3000 [false, false, false, false, false, true] [] (asS k rd ky vl lo hi ub lm rv)).val = some ([(k == 6, true), (k == 5, false), (k == 4, false), (k == 3, false), (k == 2, false), (k == 1, false)], .ifc 40 (.i .i64 1)) := by kernel_rfl
theorem as7 : (adv Pr (fun _ => false) 3000 [false, false, false, false, false, false, true] [] (asS k rd ky vl lo hi ub lm rv)).val = some ([(k == 7, true), (k == 6, false), (k == 5, false), (k == 4, false), (k == 3, false), (k == 2, false), (k == 1, false)], .ifc 40 (.i .i64 1)) := by kernel_rfl
theorem as8 : (adv Pr (fun _ => false) 3000 [false, false, false, false, false, false, false, true] [] (asS k rd ky vl lo hi ub lm rv)).val = some ([(k == 8, true), (k == 7, false), (k == 6, false), (k == 5, false), (k == 4, false), (k == 3, false), (k == 2, false), (k == 1, false)], .ifc 40 (.i .i64 1)) := by kernel_rfl
theorem as9 : (adv Pr (fun _ => false) 3000 [false, false, false, false, false, false, false, false] [] (asS k rd ky vl lo hi ub lm rv)).val = some ([(k == 8, false), (k == 7, false), (k == 6, false), (k == 5, false), (k == 4, false), (k == 3, false), (k == 2, false), (k == 1, false)], .ifc 40 (.i .i64 1)) := by kernel_rfl
end
theorem as_calls (k : Int) (rd : Bool) (ky vl lo hi : ByteArray) (ub : Bool) (lm : Int) (rv : Bool) (w : World) : Calls Pr 14 #[.pointer none, actV k rd ky vl lo hi ub lm rv] w fun e w' => ∃ v, e = .returned v ∧ Quiet w w' ∧ v = .iface 40 (.int .i64 1) := by
  refine quiet_of_wps (args := [.np, actS k rd ky vl lo hi ub lm rv]) (vs := [.pointer none, actV k rd ky vl lo hi ub lm rv]) rmix (enters_of (as0 k rd ky vl lo hi ub lm rv)) (by simp [SV.denL, SV.den, actS_den]) ?_
  cases q1 : k == 1
  rotate_left 1
  · exact WPs.ends (S := asS k rd ky vl lo hi ub lm rv) rmix _ (as1 k rd ky vl lo hi ub lm rv) (obsC q1 obsN) ⟨_, fun _ => rfl, rfl⟩
  cases q2 : k == 2
  rotate_left 1
  · exact WPs.ends (S := asS k rd ky vl lo hi ub lm rv) rmix _ (as2 k rd ky vl lo hi ub lm rv) (obsC q2 (obsC q1 obsN)) ⟨_, fun _ => rfl, rfl⟩
  cases q3 : k == 3
  rotate_left 1
  · exact WPs.ends (S := asS k rd ky vl lo hi ub lm rv) rmix _ (as3 k rd ky vl lo hi ub lm rv) (obsC q3 (obsC q2 (obsC q1 obsN))) ⟨_, fun _ => rfl, rfl⟩
  cases q4 : k == 4
  rotate_left 1
  · exact WPs.ends (S := asS k rd ky vl lo hi ub lm rv) rmix _ (as4 k rd ky vl lo hi ub lm rv) (obsC q4 (obsC q3 (obsC q2 (obsC q1 obsN)))) ⟨_, fun _ => rfl, rfl⟩
  cases q5 : k == 5
  rotate_left 1
  · exact WPs.ends (S := asS k rd ky vl lo hi ub lm rv) rmix _ (as5 k rd ky vl lo hi ub lm rv) (obsC q5 (obsC q4 (obsC q3 (obsC q2 (obsC q1 obsN))))) ⟨_, fun _ => rfl, rfl⟩
  cases q6 : k == 6
  rotate_left 1
  · exact WPs.ends (S := asS k rd ky vl lo hi ub lm rv) rmix _ (as6 k rd ky vl lo hi ub lm rv) (obsC q6 (obsC q5 (obsC q4 (obsC q3 (obsC q2 (obsC q1 obsN)))))) ⟨_, fun _ => rfl, rfl⟩
  cases q7 : k == 7
  rotate_left 1
  · exact WPs.ends (S := asS k rd ky vl lo hi ub lm rv) rmix _ (as7 k rd ky vl lo hi ub lm rv) (obsC q7 (obsC q6 (obsC q5 (obsC q4 (obsC q3 (obsC q2 (obsC q1 obsN))))))) ⟨_, fun _ => rfl, rfl⟩
  cases q8 : k == 8
  rotate_left 1
  · exact WPs.ends (S := asS k rd ky vl lo hi ub lm rv) rmix _ (as8 k rd ky vl lo hi ub lm rv) (obsC q8 (obsC q7 (obsC q6 (obsC q5 (obsC q4 (obsC q3 (obsC q2 (obsC q1 obsN)))))))) ⟨_, fun _ => rfl, rfl⟩
  exact WPs.ends (S := asS k rd ky vl lo hi ub lm rv) rmix _ (as9 k rd ky vl lo hi ub lm rv) (obsC q8 (obsC q7 (obsC q6 (obsC q5 (obsC q4 (obsC q3 (obsC q2 (obsC q1 obsN)))))))) ⟨_, fun _ => rfl, rfl⟩
end Go.Rl.Z
