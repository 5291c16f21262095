/-
  A store that is made: what 'txn.NewStore' comes to.
-/
import Derived.Test.YtghmpcnchjjikaaGreatRlZri
import Derived.Test.YtghmpcnchjjikaaGreatRlSr9
set_option linter.all false
set_option linter.unusedVariables false
set_option linter.unusedSimpArgs false
set_option linter.unnecessarySimpa false
open Go Go.Rl
namespace Go.Rl.Z
set_option maxRecDepth 100000
def st74 : Stops := fun k => Nat.beq k 74
noncomputable def nS0 (a b t r h c : Int) : SS := sOf Pr 12 [limS a b t r h c] []
noncomputable def nS1 (a b t r h c : Int) : SS := (adv Pr st74 3000 [] [] (nS0 a b t r h c)).st
noncomputable def nS2 (a b t r h c : Int) (y : SV) : SS := behind (nS1 a b t r h c) y (nS1 a b t r h c).heap
noncomputable def nS3 (a b t r h c : Int) : SS := (adv Pr st74 3000 [false, false, false, false] [] (nS2 a b t r h c (.b true))).st
noncomputable def nMk (S : SS) (len : Nat) (zc : List SV) (e : TypeId) (rest : List Value) : SS := behind S (.so S.heap.length 0 len len 1) (S.heap ++ [.row true (repL zc 1) rest e])
noncomputable def zSlot : List SV := match (zeroS Pr 171).bind cellsS with | some l => l | none => []
noncomputable def zPage : List SV := match (zeroS Pr 233).bind cellsS with | some l => l | none => []
noncomputable def nS4 (a b t r h c : Int) (n : Nat) (rest : List Value) : SS := (adv Pr st74 3000 [false, false] [] (nMk (nS3 a b t r h c) n zSlot 171 rest)).st
noncomputable def nS5 (a b t r h c : Int) (n : Nat) (rest : List Value) (m : Nat) (rest2 : List Value) : SS := nMk (nS4 a b t r h c n rest) m zPage 233 rest2

theorem n0 (a b t r h c : Int) : entersB Pr 12 [limS a b t r h c] = true := by kernel_rfl
theorem n1 (a b t r h c : Int) : (adv Pr st74 3000 [] [] (nS0 a b t r h c)).atObs = some [] := by kernel_rfl
theorem n2 (a b t r h c : Int) : calleeAt Pr (nS1 a b t r h c) = some (74, [limS a b t r h c]) := by kernel_rfl
theorem n3 (a b t r h c : Int) : (adv Pr st74 3000 [] [] (nS2 a b t r h c (.b false))).val = some ([], .tp [.ag [.np, .np], .ifc 40 (.i .i64 1)]) := by kernel_rfl
theorem n4 (a b t r h c : Int) : (adv Pr st74 3000 [false, false, false, false] [] (nS2 a b t r h c (.b true))).atObs = some [(decide (c > 1099511627776), false), (decide (c < 1), false), (decide (a > 4096), false), (decide (a < 1), false)] := by kernel_rfl
theorem n5 (a b t r h c : Int) : makeAt Pr (nS3 a b t r h c) = some (a, a, 171, 208, 17, zSlot) := by kernel_rfl
theorem n6 (a b t r h c : Int) (n : Nat) (rest : List Value) : (adv Pr st74 3000 [false, false] [] (nMk (nS3 a b t r h c) n zSlot 171 rest)).atObs = some [(decide (b > 256), false), (decide (b < 1), false)] := by kernel_rfl
theorem n7 (a b t r h c : Int) (n : Nat) (rest : List Value) : makeAt Pr (nS4 a b t r h c n rest) = some (b, b, 233, 24, 3, zPage) := by kernel_rfl
theorem n8 (a b t r h c : Int) (n : Nat) (rest : List Value) (m : Nat) (rest2 : List Value) : (adv Pr st74 3000 [false, false, false, false, true, false, true, false, false, false, false, false] [] (nS5 a b t r h c n rest m rest2)).val =
    some ([(decide (c > 1099511627776), false), (decide (c < 1), false), (decide (t > 64), false), (decide (t < 1), false), (decide ((0 : Int) ≥ (m : Int)), false), (decide ((0 : Int) < (m : Int)), true), ((0 : Int) == c, false), (decide ((0 : Int) < (n : Int)), true), (decide (c > 1099511627776), false), (decide (c < 1), false), (decide (t > 64), false), (decide (t < 1), false)],
      .tp [.ag [.p 9 0, .p 21 0], .ni]) := by kernel_rfl

/-- What NewStore tells. -/
def nsR (ok : Bool) (v : Value) : Prop :=
  (ok = false ∧ v = .tuple #[.agg #[.pointer none, .pointer none], .iface 40 (.int .i64 1)]) ∨ (ok = true ∧ ∃ p q, v = .tuple #[.agg #[.pointer (some p), .pointer (some q)], .nilIface])

theorem ns_calls (a b t r h c : Int) (w : World) : Calls Pr 12 #[limV a b t r h c] w fun e w' => ∃ v, e = .returned v ∧ Quiet w w' ∧ nsR (mrB a b t r h c) v := by
  refine quiet_of_wps2 (args := [limS a b t r h c]) (vs := [limV a b t r h c]) rmix (enters_of (n0 a b t r h c)) (by simp [SV.denL, limS_den]) ?_
  refine WPs.to (S := nS0 a b t r h c) rmix _ (n1 a b t r h c) obsN ?_
  have hspec : ∀ (ρ : Rho) (w : World) (vs : List Value), SV.denL ρ [limS a b t r h c] = some vs → Calls Pr 74 vs.toArray w fun e w' => ∃ v, e = .returned v ∧ Quiet w w' ∧ v = .bool (mrB a b t r h c) := by
    intro ρ w vs hv
    simp only [SV.denL, limS_den, Option.bind_some, Option.map_some, Option.some.injEq] at hv
    subst hv
    exact mr_calls a b t r h c w
  cases hm : mrB a b t r h c with
  | false =>
    refine WPs.callIs (S := nS1 a b t r h c) (V := .bool false) (.b false) (n2 a b t r h c) (fun _ => rfl) (fun ρ w vs hv => by have := hspec ρ w vs hv; rwa [hm] at this) ?_
    refine WPs.ends (S := nS2 a b t r h c (.b false)) rmix _ (n3 a b t r h c) obsN ?_
    intro ρ v hv
    simp only [SV.den, SV.denL, Option.bind_some, Option.map_some, Option.some.injEq] at hv
    exact .inl ⟨rfl, hv.symm⟩
  | true =>
    have hr : 4 ≤ a ∧ a ≤ 4096 ∧ 3 ≤ b ∧ b ≤ 256 ∧ 1 ≤ t ∧ t ≤ 64 ∧ 8 ≤ c ∧ c ≤ 1099511627776 := by
      unfold mrB at hm
      simp only [Bool.and_eq_true, decide_eq_true_eq] at hm
      omega
    refine WPs.callIs (S := nS1 a b t r h c) (V := .bool true) (.b true) (n2 a b t r h c) (fun _ => rfl) (fun ρ w vs hv => by have := hspec ρ w vs hv; rwa [hm] at this) ?_
    have d1 : decide (a < 1) = false := by simp; omega
    have d2 : decide (a > 4096) = false := by simp; omega
    have d3 : decide (c < 1) = false := by simp; omega
    have d4 : decide (c > 1099511627776) = false := by simp; omega
    have d5 : decide (b < 1) = false := by simp; omega
    have d6 : decide (b > 256) = false := by simp; omega
    have d7 : decide (t < 1) = false := by simp; omega
    have d8 : decide (t > 64) = false := by simp; omega
    refine WPs.to (S := nS2 a b t r h c (.b true)) rmix _ (n4 a b t r h c) (obsC d4 (obsC d3 (obsC d2 (obsC d1 obsN)))) ?_
    refine WPs.makeSym (S := nS3 a b t r h c) 1 (n5 a b t r h c) rfl (by omega) (by omega) (by decide) fun n rest hn => ?_
    refine WPs.to (S := nMk (nS3 a b t r h c) n zSlot 171 rest) rmix _ (n6 a b t r h c n rest) (obsC d6 (obsC d5 obsN)) ?_
    refine WPs.makeSym (S := nS4 a b t r h c n rest) 1 (n7 a b t r h c n rest) rfl (by omega) (by omega) (by decide) fun m rest2 hm2 => ?_
    have d9 : decide ((0 : Int) < (n : Int)) = true := by simp; omega
    have d10 : ((0 : Int) == c) = false := by simp; omega
    have d11 : decide ((0 : Int) < (m : Int)) = true := by simp; omega
    have d12 : decide ((0 : Int) ≥ (m : Int)) = false := by simp; omega
    refine WPs.ends (S := nS5 a b t r h c n rest m rest2) rmix _ (n8 a b t r h c n rest m rest2)
      (obsC d4 (obsC d3 (obsC d8 (obsC d7 (obsC d12 (obsC d11 (obsC d10 (obsC d9 (obsC d4 (obsC d3 (obsC d8 (obsC d7 obsN)))))))))))) ?_
    intro ρ v hv
    simp only [SV.den, SV.denL, Option.bind_some, Option.map_some] at hv
    cases h9 : ρ 9 with
    | none => simp [h9] at hv
    | some p =>
      cases h21 : ρ 21 with
      | none => simp [h9, h21] at hv
      | some q =>
        simp only [h9, h21, Option.map_some, Option.bind_some, Option.some.injEq] at hv
        exact .inr ⟨rfl, _, _, hv.symm⟩

end Go.Rl.Z
