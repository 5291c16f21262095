/-
  Rules to begin, to go on and to end: calls, paths, branches.
-/
import Derived.Test.YtghmpcnchjjikaaGreatRlSr
set_option linter.all false
set_option linter.unusedVariables false
set_option linter.unusedSimpArgs false
set_option linter.unnecessarySimpa false
namespace Go.Rl
open Go

section
variable {C : Ctx} {I : Imm} {S S' : SS}

/-- A call, from its first state. -/
theorem calls_of_wps {f : FuncId} {args : List SV} {vs : List Value} {w : World} {H0 : List SO} {g : SFr} (hg : enterS C.P f args = some g) (hf : C.f0 = f) (hw : C.w0 = w)
    (hH : Holds C.ρ0 H0 w) (hv : SV.denL C.ρ0 args = some vs) (hI : ImmOK I C.ρ0 w) (h : WPs C I ⟨[g], H0⟩) : Calls C.P f vs.toArray w (Fin C) := by
  obtain ⟨h1, h2, h3, tm, h4, h5⟩ := enter_frame (P := C.P) hg hv
  rw [Calls, h4]
  rw [← h1]
  have hs : St C I ⟨[g], H0⟩ C.ρ0 w (mkF g.f tm g.todo) [] := ⟨hH, hw ▸ Moves.refl _ _, hI, by simp [resN_plain h2], g, [], rfl, FrRel.mk_plain h2 h5 (by rw [h3]; intro t d hh; cases hh), .nil, by rw [lastF, h1, hf]⟩
  intro cs
  obtain ⟨e, w', fr', q1, q2, q3, q4⟩ := h C.ρ0 w _ [] hs cs
  exact ⟨e, w', fr', q1, q2, by rw [q3, h1, hf], q4⟩

/-- The beginning of a path. -/
theorem WPs.path (hm : C.P.follows .mixedOrders = true) (st : Stops) {n : Nat} {ds : List Bool} {obs : List (Bool × Bool)} (h : adv C.P st n ds [] S = .at obs S') (ho : ∀ p ∈ obs, p.1 = p.2) (g : WPs C I S') : WPs C I S := by
  have := adv_good (C := C) (I := I) hm st n ds [] S S fun _ h => h
  rw [h] at this
  exact this ho g

/-- A path to the end. -/
theorem WPs.fin (hm : C.P.follows .mixedOrders = true) (st : Stops) {n : Nat} {ds : List Bool} {obs : List (Bool × Bool)} {x : SV} {H : List SO} (h : adv C.P st n ds [] S = .done obs x H) (ho : ∀ p ∈ obs, p.1 = p.2) (g : C.Q x H I) : WPs C I S := by
  have := adv_good (C := C) (I := I) hm st n ds [] S S fun _ h => h
  rw [h] at this
  exact this ho g

end
end Go.Rl
