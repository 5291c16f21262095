/-
  Calls of what has no body: by what the model says of them.
-/
import Derived.Test.YtghmpcnchjjikaaGreatRlSr5
import Derived.Laws.Externs
set_option linter.all false
set_option linter.unusedVariables false
set_option linter.unusedSimpArgs false
set_option linter.unnecessarySimpa false
namespace Go.Rl
open Go

/-- Whom without a body an operation calls, with what. -/
def externAt (P : Program) (S : SS) : Option (FuncId × List SV) :=
  (siteAt S).bind fun o => match o.op with
    | .call c => (match c.callee with
      | .value (.func f) => some (f, c.args.toList.map (sval (topTm S)))
      | .invoke rv name => (match sval (topTm S) rv with
        | .ifc t y => (smethod P t name).map fun f => (f, y :: c.args.toList.map (sval (topTm S)))
        | _ => none)
      | _ => none)
    | _ => none

section
variable {C : Ctx} {I : Imm} {S : SS}

/-- An operation that only tells a value. -/
theorem WPs.opVal {o : Oper} (hs : siteAt S = some o) (y : SV)
    (hrun : ∀ ρ w r, Holds ρ S.heap w → (∀ x ∈ o.op.operands, (sval (topTm S) x).den ρ = some (r x)) → ∃ v, (execOp r o).run C.P w = .ok (.value v) w ∧ y.den ρ = some v)
    (g : WPs C I (behind S y S.heap)) : WPs C I S := by
  refine WPs.op hs (R := fun x H' I' => x = y ∧ H' = S.heap ∧ I' = I) ?_ ?_
  · intro ρ w r hH hI hden
    obtain ⟨v, h1, h2⟩ := hrun ρ w r hH hden
    exact ⟨y, v, ρ, w, S.heap, I, .inl h1, h2, hH, Moves.refl ρ w, hI, KeepsAll.refl _, rfl, rfl, rfl⟩
  · rintro x H' I' ⟨rfl, rfl, rfl⟩
    exact g

theorem WPs.extern {f : FuncId} {args : List SV} (h : externAt C.P S = some (f, args)) (y : SV)
    (hrun : ∀ ρ vs (w : World), SV.denL ρ args = some vs → ∃ v, (callFunc f vs.toArray).run C.P w = .ok (.value v) w ∧ y.den ρ = some v)
    (g : WPs C I (behind S y S.heap)) : WPs C I S := by
  unfold externAt at h
  cases hs : siteAt S with
  | none => rw [hs] at h; cases h
  | some o =>
    rw [hs] at h
    simp only [Option.bind_some] at h
    refine WPs.opVal hs y (fun ρ w r hH hden => ?_) g
    split at h
    case h_2 => cases h
    case h_1 c hop =>
      have hargs : SV.denL ρ (c.args.toList.map (sval (topTm S))) = some (c.args.toList.map r) := denL_map _ _ _ fun x hx => hden x (by
        rw [hop]; simp only [Op.operands, Call.operands, Array.mem_append]; exact .inr (by simpa using hx))
      split at h
      · rename_i f' hcal
        simp only [Option.some.injEq, Prod.mk.injEq] at h
        obtain ⟨rfl, rfl⟩ := h
        obtain ⟨v, hv, hy⟩ := hrun ρ _ w hargs
        have hf := hden (.func f') (by rw [hop]; simp [Op.operands, Call.operands, hcal])
        simp only [sval, SV.den, SV.denL, Option.map_some, Option.some.injEq] at hf
        refine ⟨v, ?_, hy⟩
        have hc : c = { callee := .value (.func f'), args := c.args, argTypes := c.argTypes } := by cases c; simp only at hcal; subst hcal; rfl
        simp only [execOp, hop]
        rw [hc, resolve_value hf.symm w, ← hv, arrMap]
        simp
      · rename_i rv name hcal
        split at h
        case h_2 => cases h
        case h_1 t yv hrv =>
          simp only [Option.map_eq_some_iff, Prod.mk.injEq] at h
          obtain ⟨f', hf', rfl, rfl⟩ := h
          have hr := hden rv (by rw [hop]; simp [Op.operands, Call.operands, hcal])
          rw [hrv] at hr
          simp only [SV.den, Option.map_eq_some_iff] at hr
          obtain ⟨z, hz, hrz⟩ := hr
          obtain ⟨v, hv, hy⟩ := hrun ρ _ w (denL_mk hz hargs)
          refine ⟨v, ?_, hy⟩
          have hm := smethod_run hf' z w
          have e1 : (#[Value.iface t z] ++ c.args.map r)[0]? = some (.iface t z) := by rw [Array.getElem?_append_left (by simp)]; rfl
          have e2 : (#[Value.iface t z] ++ c.args.map r).extract 1 (#[Value.iface t z] ++ c.args.map r).size = c.args.map r := by
            apply Array.ext'
            simp [List.take_of_length_le]
          have e3 : (#[z] ++ c.args.map r) = (z :: c.args.toList.map r).toArray := by
            apply Array.ext'
            simp
          simp only [execOp, hop, resolve, hcal, invoke, Sem.run_bind, Sem.run_pure, Result.andThen_ok, ← hrz, e1, e2, callMethod, run_program, hm, e3, hv]
      · cases h

end
end Go.Rl
