/-
  Whether a code is in an error: 'fault.Is' of nil and of a code.
-/
import Derived.Test.YtghmpcnchjjikaaGreatRlSr6
import Derived.Test.YtghmpcnchjjikaaGreatProg
set_option linter.all false
set_option linter.unusedVariables false
set_option linter.unusedSimpArgs false
set_option linter.unnecessarySimpa false
open Go Go.Rl
namespace Go.Rl.Z
noncomputable abbrev Pi : Program := Go.Proofs.Tryz.prog
set_option maxRecDepth 100000
theorem imix : Pi.follows .mixedOrders = true := by kernel_rfl
noncomputable def rt : Value := .agg #[.pointer (some ⟨0, 40, none⟩)]
theorem typeOf_run (x : Value) (w : World) : (callFunc 72 #[.iface 40 x]).run Pi w = .ok (.value (.iface 216 rt)) w := by kernel_rfl
theorem comparable_run (w : World) : (callFunc 306 #[rt]).run Pi w = .ok (.value (.bool true)) w := by kernel_rfl

noncomputable def iS0 (e c : SV) : SS := sOf Pi 10 [e, c] []
noncomputable def iS1 (d c : Int) : SS := (adv Pi (fun _ => false) 300 [] [] (iS0 (.ifc 40 (.v (.int .i64 d))) (.v (.int .i64 c)))).st
noncomputable def iS2 (d c : Int) : SS := behind (iS1 d c) (.ifc 216 (.v rt)) (iS1 d c).heap
noncomputable def iS3 (d c : Int) : SS := (adv Pi (fun _ => false) 300 [] [] (iS2 d c)).st
noncomputable def iS4 (d c : Int) : SS := behind (iS3 d c) (.b true) (iS3 d c).heap
theorem i0 (e c : SV) : entersB Pi 10 [e, c] = true := by kernel_rfl
theorem i1 (d c : Int) : (adv Pi (fun _ => false) 300 [] [] (iS0 (.ifc 40 (.v (.int .i64 d))) (.v (.int .i64 c)))).atObs = some [] := by kernel_rfl
theorem i2 (d c : Int) : externAt Pi (iS1 d c) = some (72, [.ifc 40 (.v (.int .i64 c))]) := by kernel_rfl
theorem i3 (d c : Int) : (adv Pi (fun _ => false) 300 [] [] (iS2 d c)).atObs = some [] := by kernel_rfl
theorem i4 (d c : Int) : externAt Pi (iS3 d c) = some (306, [.v rt]) := by kernel_rfl
theorem i5 (d c : Int) : (adv Pi (fun _ => false) 300 [true] [] (iS4 d c)).val = some ([(d == c, true)], .b true) := by kernel_rfl
theorem i6 (d c : Int) : (adv Pi (fun _ => false) 300 [false] [] (iS4 d c)).val = some ([(d == c, false)], .b false) := by kernel_rfl
theorem i7 (c : Int) : (adv Pi (fun _ => false) 300 [] [] (iS0 .ni (.v (.int .i64 c)))).val = some ([], .b false) := by kernel_rfl

theorem is_code (d c : Int) (w : World) : Calls Pi 10 #[.iface 40 (.int .i64 d), .int .i64 c] w fun e w' => ∃ v, e = .returned v ∧ Quiet w w' ∧ v = .bool (d == c) := by
  refine quiet_of_wps (args := [.ifc 40 (.v (.int .i64 d)), .v (.int .i64 c)]) (vs := [.iface 40 (.int .i64 d), .int .i64 c]) imix (enters_of (i0 _ _)) rfl ?_
  refine WPs.to (S := iS0 (.ifc 40 (.v (.int .i64 d))) (.v (.int .i64 c))) imix _ (i1 d c) (fun _ h => by cases h) ?_
  refine WPs.extern (S := iS1 d c) (i2 d c) (.ifc 216 (.v rt)) (fun ρ vs w hv => ?_) ?_
  · simp only [SV.denL, SV.den, Option.map_some, Option.bind_some, Option.some.injEq] at hv
    subst hv
    exact ⟨_, typeOf_run _ w, rfl⟩
  refine WPs.to (S := iS2 d c) imix _ (i3 d c) (fun _ h => by cases h) ?_
  refine WPs.extern (S := iS3 d c) (i4 d c) (.b true) (fun ρ vs w hv => ?_) ?_
  · simp only [SV.denL, SV.den, Option.map_some, Option.bind_some, Option.some.injEq] at hv
    subst hv
    exact ⟨_, comparable_run w, rfl⟩
  cases hdc : d == c
  · exact WPs.ends (S := iS4 d c) imix _ (i6 d c) (by simpa using hdc) ⟨_, fun _ => rfl, rfl⟩
  · exact WPs.ends (S := iS4 d c) imix _ (i5 d c) (by simpa using hdc) ⟨_, fun _ => rfl, rfl⟩

theorem is_nil (c : Int) (w : World) : Calls Pi 10 #[.nilIface, .int .i64 c] w fun e w' => ∃ v, e = .returned v ∧ Quiet w w' ∧ v = .bool false := by
  refine quiet_of_wps (args := [.ni, .v (.int .i64 c)]) (vs := [.nilIface, .int .i64 c]) imix (enters_of (i0 _ _)) rfl ?_
  exact WPs.ends (S := iS0 .ni (.v (.int .i64 c))) imix _ (i7 c) (fun _ h => by cases h) ⟨_, fun _ => rfl, rfl⟩

end Go.Rl.Z
