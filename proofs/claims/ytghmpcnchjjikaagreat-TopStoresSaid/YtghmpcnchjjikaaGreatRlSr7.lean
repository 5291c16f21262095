/-
  Reading what never turns; calls of which the result is known.
-/
import Derived.Test.YtghmpcnchjjikaaGreatRlSr6
set_option linter.all false
set_option linter.unusedVariables false
set_option linter.unusedSimpArgs false
set_option linter.unnecessarySimpa false
namespace Go.Rl
open Go

section
variable {C : Ctx} {I : Imm} {S : SS}

/-- A call that changes nothing that was there, of which the result is known. -/
theorem WPs.callIs {f : FuncId} {args : List SV} {V : Value} (y : SV) (hs : calleeAt C.P S = some (f, args)) (hy : ∀ ρ, y.den ρ = some V)
    (spec : ∀ ρ w vs, SV.denL ρ args = some vs → Calls C.P f vs.toArray w fun e w' => ∃ v, e = .returned v ∧ Quiet w w' ∧ v = V)
    (next : WPs C I (behind S y S.heap)) : WPs C I S := by
  refine WPs.call hs (R := fun x H' I' => x = y ∧ H' = S.heap ∧ I' = I) ?_ ?_
  · intro ρ w vs hH hI hv cs
    obtain ⟨e, w', fr, ⟨v, he, hq, hR⟩, h2⟩ := spec ρ w vs hv cs
    subst he
    exact ⟨_, w', fr, ⟨y, v, ρ, S.heap, I, rfl, by rw [hy ρ, hR], hq.holds hH, hq.moves ρ, hI.moves (hq.moves ρ), KeepsAll.refl _, ⟨rfl, rfl, rfl⟩⟩, h2⟩
  · rintro x H' I' ⟨rfl, rfl, rfl⟩
    exact next

/-- An element's address, of a slice that is not looked into. -/
def elemAt (P : Program) (S : SS) : Option (Addr × Nat × Int × Nat) :=
  (siteAt S).bind fun o => match o.op with
    | .indexAddr t x j =>
      (match P.underlying t, sval (topTm S) x, sint (sval (topTm S) j) with
      | some (.slice e), .v (.slice (some a) len _), some (_, i) => (tsz P e).map fun sz => (a, len, i, sz)
      | _, _, _ => none)
    | _ => none

theorem WPs.elem {a : Addr} {len sz : Nat} {i : Int} (h : elemAt C.P S = some (a, len, i, sz)) (hi : 0 ≤ i ∧ i < (len : Int))
    (g : WPs C I (behind S (.v (.pointer (some (a.add (i.toNat * sz))))) S.heap)) : WPs C I S := by
  unfold elemAt at h
  cases hs : siteAt S with
  | none => rw [hs] at h; cases h
  | some o =>
    rw [hs] at h
    simp only [Option.bind_some] at h
    split at h
    case h_2 => cases h
    case h_1 t x j hop =>
      split at h
      case h_2 => cases h
      case h_1 e a' len' cap' k i' hu hx hj =>
        simp only [Option.map_eq_some_iff, Prod.mk.injEq] at h
        obtain ⟨sz', hz, rfl, rfl, rfl, rfl⟩ := h
        refine WPs.opVal hs _ (fun ρ w r hH hden => ?_) g
        have hdx := hden x (by rw [hop]; simp [Op.operands])
        have hdj := hden j (by rw [hop]; simp [Op.operands])
        rw [hx] at hdx
        simp only [SV.den, Option.some.injEq] at hdx
        have hdj' := sint_den hj hdj
        refine ⟨_, ?_, rfl⟩
        simp only [execOp, hop, ← hdx, hdj', Instr.indexAt, asIntOf, Sem.run_bind, Sem.run_pure, Result.andThen_ok, run_und hu, if_pos hi, run_sizeOf' hz]

/-- A load of what never turns. -/
def immAt (P : Program) (S : SS) : Option (TypeId × Addr) :=
  (siteAt S).bind fun o => match o.op with
    | .load t x => (match sval (topTm S) x with | .v (.pointer (some a)) => some (t, a) | _ => none)
    | _ => none

theorem WPs.loadImm {t : TypeId} {a : Addr} {cs : Array Value} {T : TypeId} {fz : Nat × Nat} {vs : List Value} {sz : Nat} (h : immAt C.P S = some (t, a)) (hsp : a.spot = none) (hI : I a.block = some (.cells cs T fz))
    (hag : isAg C.P t = some true) (hsz : tsz C.P t = some sz) (hvs : (cs.toList.drop a.off).take sz = vs) (hl : vs.length = sz)
    (g : WPs C I (behind S (.ag (vs.map .v)) S.heap)) : WPs C I S := by
  unfold immAt at h
  cases hs : siteAt S with
  | none => rw [hs] at h; cases h
  | some o =>
    rw [hs] at h
    simp only [Option.bind_some] at h
    split at h
    case h_2 => cases h
    case h_1 t' x hop =>
      split at h
      case h_2 => cases h
      case h_1 a' hx =>
        simp only [Option.some.injEq, Prod.mk.injEq] at h
        obtain ⟨rfl, rfl⟩ := h
        refine WPs.op hs (R := fun y H' I' => y = .ag (vs.map .v) ∧ H' = S.heap ∧ I' = I) ?_ ?_
        · intro ρ w r hH hIm hden
          have hdx := hden x (by rw [hop]; simp [Op.operands])
          rw [hx] at hdx
          simp only [SV.den, Option.some.injEq] at hdx
          obtain ⟨hb, _⟩ := hIm _ _ hI
          have hden2 : (SV.ag (vs.map .v)).den ρ = some (.agg vs.toArray) := by
            have := denL_map (ρ := ρ) SV.v id vs (fun x _ => rfl)
            simp only [List.map_id] at this
            simp [SV.den, this]
          refine ⟨.ag (vs.map .v), .agg vs.toArray, ρ, w, S.heap, I, .inl ?_, hden2, hH, Moves.refl ρ w, hIm, KeepsAll.refl _, rfl, rfl, rfl⟩
          obtain ⟨b, off, spot⟩ := a'
          simp only at hsp hb hvs
          subst hsp
          have hcells := run_loadCells_list (P := C.P) w ⟨b, off, none⟩ vs (fun j v hj => by
            rw [add_off]
            have hb' : w.heap[b]? = some (.cells (cs.toList).toArray T fz) := by simpa using hb
            rw [cell_row hb']
            have hj' := (List.getElem?_eq_some_iff.1 hj).1
            rw [← hvs, List.getElem?_take, if_pos (by omega), List.getElem?_drop] at hj
            exact hj)
          rw [hl] at hcells
          simp only [execOp, hop, ← hdx, Instr.loadAt, Instr.sureAddr, loadVar, Sem.run_bind, Sem.run_pure, Result.andThen_ok, isAg_und hag, if_true, run_sizeOf' hsz, hcells]
        · rintro y H' I' ⟨rfl, rfl, rfl⟩
          exact g

end
end Go.Rl
