/-
  The example of layer 17 that wakes: what 'awake' comes to.
-/
import Derived.Test.YtghmpcnchjjikaaGreatRlSr5
import Derived.Test.YtghmpcnchjjikaaGreatProg
set_option linter.all false
set_option linter.unusedVariables false
set_option linter.unusedSimpArgs false
set_option linter.unnecessarySimpa false
open Go Go.Rl
namespace Go.Rl.Z
noncomputable abbrev P : Program := Go.Proofs.Tryz.prog
def noStops : Stops := fun _ => false
set_option maxRecDepth 100000
theorem hmix : P.follows .mixedOrders = true := by kernel_rfl
noncomputable def aS0 : SS := sOf P 5 [] []
noncomputable def aS1 : SS := (adv P noStops 3000 [] [] aS0).st
noncomputable def aC : List SV := [.s "a".toUTF8, .s "1".toUTF8, .b false]
noncomputable def aS2 (c1 : Nat) (r1 : List Value) : SS := growS aS1 1 aC 99 c1 r1
noncomputable def aS3 (c1 : Nat) (r1 : List Value) : SS := (adv P noStops 3000 [] [] (aS2 c1 r1)).st
noncomputable def aS4 (c1 : Nat) (r1 : List Value) (c2 : Nat) (r2 : List Value) : SS := growS (aS3 c1 r1) 1 aC 99 c2 r2
noncomputable def aS5 (c1 : Nat) (r1 : List Value) (c2 : Nat) (r2 : List Value) : SS := (adv P noStops 3000 [] [] (aS4 c1 r1 c2 r2)).st
noncomputable def aS6 (c1 : Nat) (r1 : List Value) (c2 : Nat) (r2 : List Value) (v : Value) : SS := firstS (aS5 c1 r1 c2 r2) 20 .i64 1 0 v
theorem k0 : entersB P 5 [] = true := by kernel_rfl
theorem k1 : (adv P noStops 3000 [] [] aS0).atObs = some [] := by kernel_rfl
theorem k2 : growAt P aS1 = some (1, aC, 99) := by kernel_rfl
theorem k3 (c1 : Nat) (r1 : List Value) : (adv P noStops 3000 [] [] (aS2 c1 r1)).atObs = some [] := by kernel_rfl
theorem k4 (c1 : Nat) (r1 : List Value) : growAt P (aS3 c1 r1) = some (1, aC, 99) := by kernel_rfl
theorem k5 (c1 : Nat) (r1 : List Value) (c2 : Nat) (r2 : List Value) : (adv P noStops 3000 [] [] (aS4 c1 r1 c2 r2)).atObs = some [] := by kernel_rfl
theorem k6 (c1 : Nat) (r1 : List Value) (c2 : Nat) (r2 : List Value) : firstAt P (aS5 c1 r1 c2 r2) = some (20, .i64, 1, 0) := by kernel_rfl
theorem k7 (c1 : Nat) (r1 : List Value) (c2 : Nat) (r2 : List Value) (v : Value) : (adv P noStops 3000 [] [] (aS6 c1 r1 c2 r2 v)).val = some ([], .b true) := by kernel_rfl

theorem nilObs : ∀ p ∈ ([] : List (Bool × Bool)), p.1 = p.2 := fun _ h => by cases h

theorem awake_calls (w : World) : Calls P 5 #[] w fun e w' => ∃ v, e = .returned v ∧ Quiet w w' ∧ v = .bool true := by
  refine quiet_of_wps (args := []) (vs := []) hmix (enters_of k0) rfl ?_
  refine WPs.to (S := aS0) hmix noStops k1 nilObs ?_
  refine WPs.grow (S := aS1) k2 fun c1 r1 _ => ?_
  refine WPs.to (S := aS2 c1 r1) hmix noStops (k3 c1 r1) nilObs ?_
  refine WPs.grow (S := aS3 c1 r1) (k4 c1 r1) fun c2 r2 _ => ?_
  refine WPs.to (S := aS4 c1 r1 c2 r2) hmix noStops (k5 c1 r1 c2 r2) nilObs ?_
  refine WPs.mapFirst (S := aS5 c1 r1 c2 r2) (k6 c1 r1 c2 r2) fun v => ?_
  exact WPs.ends (S := aS6 c1 r1 c2 r2 v) hmix noStops (k7 c1 r1 c2 r2 v) nilObs ⟨_, fun _ => rfl, rfl⟩

end Go.Rl.Z
