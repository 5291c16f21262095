/-
  More on calls that change nothing that was there.
-/
import Derived.Test.YtghmpcnchjjikaaGreatRlSr8
set_option linter.all false
set_option linter.unusedVariables false
set_option linter.unusedSimpArgs false
set_option linter.unnecessarySimpa false
namespace Go.Rl
open Go

/-- A contract of a call of which nothing that is there is named; the result may lead to what is new. -/
theorem quiet_of_wps2 {P : Program} (hm : P.follows .mixedOrders = true) {f : FuncId} {args : List SV} {vs : List Value} {w : World} {g : SFr} {R : Value → Prop} (hg : enterS P f args = some g)
    (hv : SV.denL (fun _ => none) args = some vs)
    (h : WPs { P := P, hm := hm, f0 := f, ρ0 := fun _ => none, w0 := w, Q := fun x _ _ => ∀ ρ v, x.den ρ = some v → R v } (fun _ => none) ⟨[g], []⟩) :
    Calls P f vs.toArray w fun e w' => ∃ v, e = .returned v ∧ Quiet w w' ∧ R v := by
  have := calls_of_wps (C := { P := P, hm := hm, f0 := f, ρ0 := fun _ => none, w0 := w, Q := fun x _ _ => ∀ ρ v, x.den ρ = some v → R v }) (I := fun _ => none) (w := w) (H0 := []) hg rfl rfl
    ⟨fun n _ _ _ _ hn => by simp at hn, fun n _ hn => by simp at hn, fun n m b hn _ _ _ => by obtain ⟨o, ho, _⟩ := hn; simp at ho, fun n b hb => by cases hb⟩ hv (fun b o hb => by cases hb) h
  intro cs
  obtain ⟨e, w', fr, ⟨x, H, ρ, I, val, rfl, hx, _, hmv, _, hR⟩, h2⟩ := this cs
  exact ⟨_, w', fr, ⟨val, rfl, hmv.quiet, hR ρ val hx⟩, h2⟩

section
variable {C : Ctx} {I : Imm} {S : SS}

/-- A call that changes nothing that was there, and comes to what is one of some. -/
theorem WPs.callAs {f : FuncId} {args : List SV} (hs : calleeAt C.P S = some (f, args)) {R : SV → Prop}
    (spec : ∀ ρ w vs, SV.denL ρ args = some vs → Calls C.P f vs.toArray w fun e w' => ∃ v y, e = .returned v ∧ Quiet w w' ∧ (∀ ρ, SV.den ρ y = some v) ∧ R y)
    (next : ∀ y, R y → WPs C I (behind S y S.heap)) : WPs C I S := by
  refine WPs.call hs (R := fun x H' I' => H' = S.heap ∧ I' = I ∧ R x) ?_ ?_
  · intro ρ w vs hH hI hv cs
    obtain ⟨e, w', fr, ⟨v, y, he, hq, hy, hR⟩, h2⟩ := spec ρ w vs hv cs
    subst he
    exact ⟨_, w', fr, ⟨y, v, ρ, S.heap, I, rfl, hy ρ, hq.holds hH, hq.moves ρ, hI.moves (hq.moves ρ), KeepsAll.refl _, ⟨rfl, rfl, hR⟩⟩, h2⟩
  · rintro x H' I' ⟨rfl, rfl, hR⟩
    exact next x hR

end
end Go.Rl
