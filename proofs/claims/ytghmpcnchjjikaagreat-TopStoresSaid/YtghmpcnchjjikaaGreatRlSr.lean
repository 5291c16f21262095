/-
  Rules for what the symbolic machine does not do by itself: contracts of calls, operations by hand, slots, what may be forgotten.
-/
import Derived.Test.YtghmpcnchjjikaaGreatRlSp9
set_option linter.all false
set_option linter.unusedVariables false
set_option linter.unusedSimpArgs false
set_option linter.unnecessarySimpa false
namespace Go.Rl
open Go

/-- The operation that comes next for sure, and its frame. -/
def siteAt (S : SS) : Option Oper :=
  match S.frames with
  | [] => none
  | fr :: _ =>
    match fr.cur with
    | none =>
      (match fr.todo with
      | .inRegion ops (i :: _) :: _ =>
        (match ops[i]? with
        | some o => (match wantedS ops fr.tmps fr.gd o with | .yes => some o | _ => none)
        | none => none)
      | _ => none)
    | some ar =>
      (match ar.rest with
      | i :: _ =>
        (match ar.ops[i]? with
        | some o =>
          (match wantedS ar.ops fr.tmps fr.gd o, opKind o.op with
          | .yes, 2 =>
            if (ar.pend.any fun u => ((befores ar.ops.toList).getD i 0).testBit u) || (ar.resv.any fun u => ((befores ar.ops.toList).getD i 0).testBit u.1) then none else some o
          | _, _ => none)
        | none => none)
      | [] => none)

/-- The state behind the operation that came next. -/
def behind (S : SS) (x : SV) (H : List SO) : SS :=
  match S.frames with
  | [] => ⟨[], H⟩
  | fr :: cs => (match finishS x fr with | some fr' => ⟨fr' :: cs, H⟩ | none => ⟨[], H⟩)

def topTm (S : SS) : List SV :=
  match S.frames with
  | [] => []
  | fr :: _ => fr.tmps

theorem AnyRel.res_lt {P : Program} {ρ : Rho} {H : List SO} {sf : SFr} {ar : AnyR} (hc : sf.cur = some ar) {L U : List Nat} {tm : Array Value} (h : AnyRel P ρ H sf ar L U tm) {n : Nat} (hn : n ∈ resN sf) : n < H.length := by
  unfold resN at hn
  rw [hc] at hn
  obtain ⟨⟨u, m⟩, hu, rfl⟩ := List.mem_map.1 hn
  obtain ⟨o, d, nk, ks, T, _, _, _, _, _, _, _, h8⟩ := (h.rsv u m hu).1
  exact (List.getElem?_eq_some_iff.1 h8).1

section
variable {C : Ctx} {I I' : Imm} {H H' : List SO} {sf : SFr} {cs : List SFr} {ρ ρ' : Rho} {w w' : World} {fr : Frame} {inner : List Frame} {ar : AnyR}

/-- What a change of memory must leave to all frames. -/
def KeepsAll (P : Program) (H H' : List SO) (ρ ρ' : Rho) (frames : List SFr) : Prop := ∀ c ∈ frames, Keeps P H H' c ∧ ∀ n ∈ resN c, n < H.length → ρ' n = ρ n

theorem KeepsAll.refl {P : Program} (frames : List SFr) : KeepsAll P H H ρ ρ frames := fun c _ => ⟨Keeps.refl c, fun _ _ _ => rfl⟩

/-- The machine comes to the operation; and whatever it comes to there, the state behind it is there. -/
theorem site {S : SS} (h : St C I S ρ w fr inner) {o : Oper} (hs : siteAt S = some o) :
    ∃ ρ1 w1 f ops i L k tm, StepsC C.P fr inner w (mkF f tm (.inRegion ops (i :: L) :: k)) inner w1 ∧ ops[i]? = some o ∧ Region.wanted o (yielded ops tm) = true ∧
      Holds ρ1 S.heap w1 ∧ ImmOK I ρ1 w1 ∧ (∀ x ∈ o.op.operands, (sval (topTm S) x).den ρ1 = some (ev tm x)) ∧
      ∀ (x : SV) (v : Value) (ρ' : Rho) (w' : World) (H' : List SO) (I' : Imm), x.den ρ' = some v → Holds ρ' H' w' → Moves ρ1 ρ' w1 w' → ImmOK I' ρ' w' → KeepsAll C.P S.heap H' ρ1 ρ' S.frames →
        St C I' (behind S x H') ρ' w' (mkF f (putA tm o.dst v) (.inRegion ops L :: k)) inner := by
  obtain ⟨frames, H⟩ := S
  cases frames with
  | nil => cases hs
  | cons sf cs =>
    obtain ⟨f, tmps, gd, cur, todo⟩ := sf
    cases cur with
    | none =>
      cases todo with
      | nil => cases hs
      | cons t k =>
        cases t with
        | inRegion ops l =>
          cases l with
          | nil => cases hs
          | cons i r =>
            simp only [siteAt] at hs
            cases ho : ops[i]? with
            | none => rw [ho] at hs; cases hs
            | some q =>
              rw [ho] at hs
              simp only at hs
              cases hw : wantedS ops tmps gd q <;> rw [hw] at hs <;> simp only [Option.some.injEq, reduceCtorEq] at hs
              subst hs
              obtain ⟨tm, rfl, hT, hg⟩ := h.plain rfl
              have hwant := (wantedS_spec hT hg (ops := ops) (o := q) fun _ _ _ _ _ _ _ => id).1 hw
              refine ⟨ρ, w, f, ops, i, r, k, tm, fun cs' => Steps.refl _ _, ho, hwant, h.holds, h.imm, fun x _ => hT.sval x fun _ _ => id, ?_⟩
              intro x v ρ' w' H' I' hd hH hm hI hk
              have hb : behind ⟨⟨f, tmps, gd, none, .inRegion ops (i :: r) :: k⟩ :: cs, H⟩ x H' = ⟨{ (⟨f, tmps, gd, none, .inRegion ops (i :: r) :: k⟩ : SFr).setT q.dst x with todo := .inRegion ops r :: k } :: cs, H'⟩ := by
                simp [behind, finishS, ho]
              rw [hb]
              have hst := h.turn (sf' := { (⟨f, tmps, gd, none, .inRegion ops (i :: r) :: k⟩ : SFr).setT q.dst x with todo := .inRegion ops r :: k }) (fr' := mkF f (putA tm q.dst v) (.inRegion ops r :: k)) hH hm ?_ (setT_f (sf := ⟨f, tmps, gd, none, .inRegion ops (i :: r) :: k⟩) q.dst x)
                (fun c hc => (hk c (by simp [hc])).1) (fun c hc n hn => (hk c (by simp [hc])).2 n hn (h.caller_lt hc hn)) ?_
              · exact ⟨hst.holds, hst.moves, hI, hst.names, hst.frs⟩
              · have := FrRel.mk_plain (C := C) (H := H') (ρ := ρ') (sf' := { (⟨f, tmps, gd, none, .inRegion ops (i :: r) :: k⟩ : SFr).setT q.dst x with todo := .inRegion ops r :: k }) (tm := putA tm q.dst v)
                  (setT_cur (sf := ⟨f, tmps, gd, none, .inRegion ops (i :: r) :: k⟩) q.dst x) (setT_rel (sf := ⟨f, tmps, gd, none, .inRegion ops (i :: r) :: k⟩) (hT.mono hm.le) hd fun _ _ _ => id) (setT_gd (sf := ⟨f, tmps, gd, none, .inRegion ops (i :: r) :: k⟩) hg q.dst x)
                rw [show ({ (⟨f, tmps, gd, none, .inRegion ops (i :: r) :: k⟩ : SFr).setT q.dst x with todo := .inRegion ops r :: k } : SFr).f = f from setT_f (sf := ⟨f, tmps, gd, none, .inRegion ops (i :: r) :: k⟩) q.dst x] at this
                exact this
              · rw [resN_plain (sf' := { (⟨f, tmps, gd, none, .inRegion ops (i :: r) :: k⟩ : SFr).setT q.dst x with todo := .inRegion ops r :: k }) (setT_cur (sf := ⟨f, tmps, gd, none, .inRegion ops (i :: r) :: k⟩) q.dst x)]
                simpa using h.callers
        | _ => cases hs
    | some ar =>
      obtain ⟨ops, rest, pend, resv⟩ := ar
      cases rest with
      | nil => cases hs
      | cons i r =>
        simp only [siteAt] at hs
        cases ho : ops[i]? with
        | none => rw [ho] at hs; cases hs
        | some q =>
          rw [ho] at hs
          simp only at hs
          cases hw : wantedS ops tmps gd q <;> rw [hw] at hs <;> first | (simp only [reduceCtorEq] at hs; done) | skip
          rcases opKind_cases q.op with hk | hk | hk <;> rw [hk] at hs <;> first | (simp only [reduceCtorEq] at hs; done) | skip
          split at hs
          case h_2 => cases hs
          case h_1 hif =>
          split at hs
          case isTrue => cases hs
          case isFalse hif2 =>
            have hflush := flushed (ar := ⟨ops, i :: r, pend, resv⟩) hif2
            have hqo := Option.some.inj hs
            subst hqo
            obtain ⟨_, _, _, _, hA0⟩ := h.any rfl
            obtain ⟨ρ1, w1, tm1, L1, U1, hst, h1, hA, hh⟩ := h.reach (sf := ⟨f, tmps, gd, some ⟨ops, i :: r, pend, resv⟩, todo⟩) rfl (hard_behind hA0.ok (by obtain ⟨pre, hp, _⟩ := hA0.pre; exact ⟨pre, hp⟩) rfl ho hk)
            obtain ⟨L2, rfl⟩ : ∃ L2, L1 = i :: L2 := by
              cases L1 with
              | nil => simp at hh
              | cons x l => simp at hh; subst hh; exact ⟨l, rfl⟩
            have hwant := (wantedS_spec hA.tms hA.gds (ops := ops) (o := q) (fun j want t x e1 e2 e3 => hA.reads ho (guard_reads e1 e2 e3))).1 hw
            refine ⟨ρ1, w1, f, ops, i, L2, todo, tm1, hst, ho, hwant, h1.holds, h1.imm, fun x hx => hA.tms.sval x fun t e => hA.reads ho (mem_reads (e ▸ hx) rfl), ?_⟩
            intro x v ρ' w' H' I' hd hH hm hI hkk
            have hb : behind ⟨⟨f, tmps, gd, some ⟨ops, i :: r, pend, resv⟩, todo⟩ :: cs, H⟩ x H' = ⟨{ (⟨f, tmps, gd, some ⟨ops, i :: r, pend, resv⟩, todo⟩ : SFr).setT q.dst x with cur := some ⟨ops, r, pend, resv⟩ } :: cs, H'⟩ := by
              simp [behind, finishS, ho]
            rw [hb]
            have hst := h1.turn (sf' := { (⟨f, tmps, gd, some ⟨ops, i :: r, pend, resv⟩, todo⟩ : SFr).setT q.dst x with cur := some ⟨ops, r, pend, resv⟩ }) (fr' := mkF f (putA tm1 q.dst v) (.inRegion ops L2 :: todo)) hH hm ?_
              (setT_f (sf := ⟨f, tmps, gd, some ⟨ops, i :: r, pend, resv⟩, todo⟩) q.dst x) (fun c hc => (hkk c (by simp [hc])).1) (fun c hc n hn => (hkk c (by simp [hc])).2 n hn (h1.caller_lt hc hn)) ?_
            · exact ⟨hst.holds, hst.moves, hI, hst.names, hst.frs⟩
            · have hA2 := (hA.keeps (sf := ⟨f, tmps, gd, some ⟨ops, i :: r, pend, resv⟩, todo⟩) rfl (hkk _ (by simp)).1 hm.le fun n hn => (hkk _ (by simp)).2 n hn (hA.res_lt rfl hn)).done rfl ho (x := x) (v := v) hd (.inr hflush)
              have := FrRel.mk_any (P := C.P) (sf' := { (⟨f, tmps, gd, some ⟨ops, i :: r, pend, resv⟩, todo⟩ : SFr).setT q.dst x with cur := some ⟨ops, r, pend, resv⟩ }) (ar' := ⟨ops, r, pend, resv⟩) rfl hA2
              rw [show ({ (⟨f, tmps, gd, some ⟨ops, i :: r, pend, resv⟩, todo⟩ : SFr).setT q.dst x with cur := some ⟨ops, r, pend, resv⟩ } : SFr).f = f from setT_f (sf := ⟨f, tmps, gd, some ⟨ops, i :: r, pend, resv⟩, todo⟩) q.dst x,
                show ({ (⟨f, tmps, gd, some ⟨ops, i :: r, pend, resv⟩, todo⟩ : SFr).setT q.dst x with cur := some ⟨ops, r, pend, resv⟩ } : SFr).todo = todo from setT_todo (sf := ⟨f, tmps, gd, some ⟨ops, i :: r, pend, resv⟩, todo⟩) q.dst x] at this
              exact this
            · exact h1.tops

/-- An operation by hand. -/
theorem WPs.op {S : SS} {o : Oper} (hs : siteAt S = some o) {R : SV → List SO → Imm → Prop}
    (spec : ∀ ρ w (r : Operand → Value), Holds ρ S.heap w → ImmOK I ρ w → (∀ x ∈ o.op.operands, (sval (topTm S) x).den ρ = some (r x)) →
      ∃ x v ρ' w' H' I', ((execOp r o).run C.P w = .ok (.value v) w' ∨ ((execOp r o).run C.P w = .ok .skip w' ∧ v = undef)) ∧ x.den ρ' = some v ∧ Holds ρ' H' w' ∧ Moves ρ ρ' w w' ∧ ImmOK I' ρ' w' ∧
        KeepsAll C.P S.heap H' ρ ρ' S.frames ∧ R x H' I')
    (next : ∀ x H' I', R x H' I' → WPs C I' (behind S x H')) : WPs C I S := by
  intro ρ w fr inner h
  obtain ⟨ρ1, w1, f, ops, i, L, k, tm, hst, ho, hw, hH, hI, hden, hb⟩ := site h hs
  obtain ⟨x, v, ρ', w', H', I', hrun, hd, hH', hm, hI', hk, hR⟩ := spec ρ1 w1 (ev tm) hH hI hden
  have g := next x H' I' hR ρ' w' _ inner (hb x v ρ' w' H' I' hd hH' hm hI' hk)
  refine g.steps fun cs' => (hst cs').trans (.one ?_)
  rcases hrun with hrun | ⟨hrun, rfl⟩
  · exact step_op_value ho hw hrun
  · exact step_op_skipR ho hw hrun

/-- Whom an operation calls, with what. -/
def calleeAt (P : Program) (S : SS) : Option (FuncId × List SV) :=
  match S.frames with
  | [] => none
  | fr :: _ =>
    match siteAt S with
    | some o => (match sopG P S.heap fr.tmps fr.gd o with | .enter f args => some (f, args) | _ => none)
    | none => none

/-- A call by its contract. -/
theorem WPs.call {S : SS} {f : FuncId} {args : List SV} (hs : calleeAt C.P S = some (f, args)) {R : SV → List SO → Imm → Prop}
    (spec : ∀ ρ w vs, Holds ρ S.heap w → ImmOK I ρ w → SV.denL ρ args = some vs →
      Calls C.P f vs.toArray w fun e w' => ∃ x v ρ' H' I', e = .returned v ∧ x.den ρ' = some v ∧ Holds ρ' H' w' ∧ Moves ρ ρ' w w' ∧ ImmOK I' ρ' w' ∧ KeepsAll C.P S.heap H' ρ ρ' S.frames ∧ R x H' I')
    (next : ∀ x H' I', R x H' I' → WPs C I' (behind S x H')) : WPs C I S := by
  intro ρ w fr inner h
  unfold calleeAt at hs
  split at hs
  case h_1 => cases hs
  case h_2 sf cs hfr =>
    cases hsite : siteAt S with
    | none => rw [hsite] at hs; cases hs
    | some o =>
      rw [hsite] at hs
      simp only at hs
      cases hso : sopG C.P S.heap sf.tmps sf.gd o <;> rw [hso] at hs <;> simp only [Option.some.injEq, Prod.mk.injEq, reduceCtorEq] at hs
      obtain ⟨rfl, rfl⟩ := hs
      rename_i f args
      obtain ⟨ρ1, w1, g, ops, i, L, k, tm, hst, ho, hw, hH, hI, hden, hb⟩ := site h hsite
      have htm : topTm S = sf.tmps := by unfold topTm; rw [hfr]
      have hsnd : (sopG C.P S.heap sf.tmps sf.gd o).Sound C.P ρ1 w1 (execOp (ev tm) o) := by
        -- a call is no 'pick'
        have hx : ∀ x ∈ o.op.operands, (sval sf.tmps x).den ρ1 = some (ev tm x) := by rw [← htm]; exact hden
        have hb := sop_sound (P := C.P) hH o hx
        have : sopG C.P S.heap sf.tmps sf.gd o = sop C.P S.heap sf.tmps o := by
          unfold sopG at hso ⊢
          split at hso
          · rename_i t a b e
            split at hso
            · split at hso <;> cases hso
            · simp only
          · rfl
        rw [this]; exact hb
      rw [hso] at hsnd
      obtain ⟨vs, hvs, hrun⟩ := hsnd
      intro cs'
      obtain ⟨e, w', fr', ⟨x, v, ρ', H', I', rfl, hd, hH', hm, hI', hk, hR⟩, hcomes, hfn, hleave⟩ := spec ρ1 w1 vs hH hI hvs (mkF g tm (.inRegion ops (i :: L) :: k) :: (inner ++ cs'))
      have gd := next x H' I' hR ρ' w' _ inner (hb x v ρ' w' H' I' hd hH' hm hI' hk)
      have hfin : (mkF g tm (.inRegion ops (i :: L) :: k)).finish v = mkF g (putA tm o.dst v) (.inRegion ops L :: k) := by
        have := Frame.finish_at (mkF g #[] []) ⟨tm, []⟩ ops i L k v
        rw [ho] at this
        simp only [Option.bind_some, put_eq] at this
        exact this
      obtain ⟨e2, w2, fr2, q1, q2, q3⟩ := gd cs'
      refine ⟨e2, w2, fr2, q1, .of_steps ((hst cs').trans (.head (step_op_enter ho hw (hrun w1)) (Steps.trans hcomes (.one ?_)))) q2, q3⟩
      rw [← hfin]
      exact step_leave_returned hleave

end
end Go.Rl
