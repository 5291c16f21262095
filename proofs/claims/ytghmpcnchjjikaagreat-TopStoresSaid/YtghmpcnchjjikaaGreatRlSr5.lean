/-
  Paths whose ends need not be written; calls that change nothing that was there.
-/
import Derived.Test.YtghmpcnchjjikaaGreatRlSr4
set_option linter.all false
set_option linter.unusedVariables false
set_option linter.unusedSimpArgs false
set_option linter.unnecessarySimpa false
namespace Go.Rl
open Go

def AR.st : AR → SS
  | .at _ S => S
  | .done _ _ _ => ⟨[], []⟩
def AR.atObs : AR → Option (List (Bool × Bool))
  | .at o _ => some o
  | .done _ _ _ => none

def AR.val : AR → Option (List (Bool × Bool) × SV)
  | .done o x _ => some (o, x)
  | .at _ _ => none
def AR.hp : AR → List SO
  | .done _ _ H => H
  | .at _ _ => []

theorem AR.done_of {r : AR} {obs : List (Bool × Bool)} {x : SV} (h : r.val = some (obs, x)) : r = .done obs x r.hp := by
  cases r with
  | «at» o S => cases h
  | done o y H => simp only [AR.val, Option.some.injEq, Prod.mk.injEq] at h; obtain ⟨rfl, rfl⟩ := h; rfl

theorem AR.at_of {r : AR} {obs : List (Bool × Bool)} (h : r.atObs = some obs) : r = .at obs r.st := by
  cases r with
  | «at» o S => simp only [AR.atObs, Option.some.injEq] at h; subst h; rfl
  | done o x H => cases h

def gOf (P : Program) (f : FuncId) (args : List SV) : SFr := match enterS P f args with | some g => g | none => ⟨0, [], [], none, []⟩
def sOf (P : Program) (f : FuncId) (args : List SV) (H : List SO) : SS := ⟨[gOf P f args], H⟩
def entersB (P : Program) (f : FuncId) (args : List SV) : Bool := match enterS P f args with | some _ => true | none => false

theorem enters_of {P : Program} {f : FuncId} {args : List SV} (h : entersB P f args = true) : enterS P f args = some (gOf P f args) := by
  unfold entersB at h
  unfold gOf
  cases hh : enterS P f args with
  | none => rw [hh] at h; cases h
  | some g => rfl

/-- The state behind a first entry of a map. -/
def firstS (S : SS) (n : Nat) (q : IntKind) (a : Int) (c : Nat) (v : Value) : SS := behind S (.tp []) (S.heap.set n (.obj (.any (.map #[⟨.int q a, v, c⟩] (c + 1)))))

/-- The state behind an append that found no room. -/
def growS (S : SS) (need : Nat) (cells : List SV) (e : TypeId) (cap : Nat) (rest : List Value) : SS :=
  behind S (.sl S.heap.length 0 need cap) (S.heap ++ [.row true cells rest e])

section
variable {C : Ctx} {I : Imm} {S : SS}

theorem WPs.to (hm : C.P.follows .mixedOrders = true) (st : Stops) {n : Nat} {ds : List Bool} {obs : List (Bool × Bool)} (h : (adv C.P st n ds [] S).atObs = some obs) (ho : ∀ p ∈ obs, p.1 = p.2)
    (g : WPs C I (adv C.P st n ds [] S).st) : WPs C I S :=
  WPs.path hm st (AR.at_of h) ho g

theorem WPs.ends (hm : C.P.follows .mixedOrders = true) (st : Stops) {n : Nat} {ds : List Bool} {obs : List (Bool × Bool)} {x : SV} (h : (adv C.P st n ds [] S).val = some (obs, x)) (ho : ∀ p ∈ obs, p.1 = p.2)
    (g : C.Q x (adv C.P st n ds [] S).hp I) : WPs C I S :=
  WPs.fin hm st (AR.done_of h) ho g

end

/-- Nothing that was there is another thing. -/
def Quiet (w w' : World) : Prop := Moves (fun _ => none) (fun _ => none) w w'

theorem Moves.quiet {ρ : Rho} {w w' : World} (h : Moves (fun _ => none) ρ w w') : Quiet w w' :=
  ⟨h.os, h.tape, h.output, h.size, h.old, Rho.le_refl _, fun _ _ e => by cases e⟩

theorem Quiet.old {w w' : World} (h : Quiet w w') {b : Nat} (hb : b < w.heap.size) : w'.heap[b]? = w.heap[b]? := Moves.old h b hb fun _ e => by cases e

theorem Quiet.refl (w : World) : Quiet w w := Moves.refl _ w
theorem Quiet.trans {u v w : World} (h : Quiet u v) (k : Quiet v w) : Quiet u w := Moves.trans h k

theorem Quiet.moves {w w' : World} (h : Quiet w w') (ρ : Rho) : Moves ρ ρ w w' :=
  ⟨h.os, h.tape, h.output, h.size, fun _ hb _ => h.old hb, Rho.le_refl ρ, fun _ _ e => .inl ⟨_, e⟩⟩

theorem Quiet.holds {w w' : World} (h : Quiet w w') {ρ : Rho} {H : List SO} (hH : Holds ρ H w) : Holds ρ H w' := by
  refine ⟨fun n live ks rest T hn => ?_, fun n o hn => ?_, hH.inj, fun n b hb => ?_⟩
  · obtain ⟨h1, h2⟩ := hH.row n live ks rest T hn
    refine ⟨h1, fun b hb => ?_⟩
    obtain ⟨vs, hv, hc⟩ := h2 b hb
    exact ⟨vs, hv, by rw [h.old (hH.lt n b hb).2]; exact hc⟩
  · obtain ⟨b, hb, hc⟩ := hH.obj n o hn
    exact ⟨b, hb, by rw [h.old (hH.lt n b hb).2]; exact hc⟩
  · have h1 := hH.lt n b hb
    have h2 : w.heap.size ≤ w'.heap.size := Moves.size h
    exact ⟨h1.1, by omega⟩

section
variable {C : Ctx} {I : Imm} {S : SS}

/-- A call that changes nothing that was there, and comes to a value. -/
theorem WPs.callQuiet {f : FuncId} {args : List SV} (hs : calleeAt C.P S = some (f, args)) {R : Value → Prop}
    (spec : ∀ ρ w vs, Holds ρ S.heap w → ImmOK I ρ w → SV.denL ρ args = some vs → Calls C.P f vs.toArray w fun e w' => ∃ v, e = .returned v ∧ Quiet w w' ∧ R v)
    (next : ∀ v, R v → WPs C I (behind S (.v v) S.heap)) : WPs C I S := by
  refine WPs.call hs (R := fun x H' I' => ∃ v, x = .v v ∧ H' = S.heap ∧ I' = I ∧ R v) ?_ ?_
  · intro ρ w vs hH hI hv cs
    obtain ⟨e, w', fr, ⟨v, he, hq, hR⟩, h2⟩ := spec ρ w vs hH hI hv cs
    subst he
    exact ⟨_, w', fr, ⟨.v v, v, ρ, S.heap, I, rfl, rfl, hq.holds hH, hq.moves ρ, hI.moves (hq.moves ρ), KeepsAll.refl _, ⟨v, rfl, rfl, rfl, hR⟩⟩, h2⟩
  · rintro x H' I' ⟨v, rfl, rfl, rfl, hR⟩
    exact next v hR

/-- A contract of a call of which nothing that is there is named. -/
theorem quiet_of_wps {P : Program} (hm : P.follows .mixedOrders = true) {f : FuncId} {args : List SV} {vs : List Value} {w : World} {g : SFr} {R : Value → Prop} (hg : enterS P f args = some g)
    (hv : SV.denL (fun _ => none) args = some vs)
    (h : WPs { P := P, hm := hm, f0 := f, ρ0 := fun _ => none, w0 := w, Q := fun x _ _ => ∃ v, (∀ ρ, x.den ρ = some v) ∧ R v } (fun _ => none) ⟨[g], []⟩) :
    Calls P f vs.toArray w fun e w' => ∃ v, e = .returned v ∧ Quiet w w' ∧ R v := by
  have := calls_of_wps (C := { P := P, hm := hm, f0 := f, ρ0 := fun _ => none, w0 := w, Q := fun x _ _ => ∃ v, (∀ ρ, x.den ρ = some v) ∧ R v }) (I := fun _ => none) (w := w) (H0 := []) hg rfl rfl
    ⟨fun n _ _ _ _ hn => by simp at hn, fun n _ hn => by simp at hn, fun n m b hn _ _ _ => by obtain ⟨o, ho, _⟩ := hn; simp at ho, fun n b hb => by cases hb⟩ hv (fun b o hb => by cases hb) h
  intro cs
  obtain ⟨e, w', fr, ⟨x, H, ρ, I, val, rfl, hx, _, hmv, _, v, hvv, hR⟩, h2⟩ := this cs
  rw [hvv ρ] at hx
  exact ⟨_, w', fr, ⟨v, congrArg _ (Option.some.inj hx).symm, hmv.quiet, hR⟩, h2⟩

end
end Go.Rl
