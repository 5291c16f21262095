/-
  What the symbolic machine says is what the machine does (9): the theorem.
-/
import Derived.Test.YtghmpcnchjjikaaGreatRlSp8
set_option linter.all false
set_option linter.unusedVariables false
set_option linter.unusedSimpArgs false
set_option linter.unnecessarySimpa false
namespace Go.Rl
open Go

section
variable {C : Ctx} {I : Imm} {H H' : List SO} {sf : SFr} {cs : List SFr} {ρ : Rho} {w : World} {fr : Frame} {inner : List Frame} {ar : AnyR}

theorem store_of {P : Program} {tm : List SV} {gd : List (Tmp × Bool)} {o : Oper} {frames : List SFr} (hs : sopG P H tm gd o = .heap H') (hcl : storeClear P frames tm o = true) :
    ∀ c ∈ frames, Keeps P H H' c := by
  unfold storeClear wrote at hcl
  split at hcl
  case h_2 => cases hcl
  case h_1 n off sz hwr =>
    split at hwr
    case h_2 => cases hwr
    case h_1 t a x hop =>
      split at hwr
      case h_2 => cases hwr
      case h_1 n' off' ha =>
        simp only [Option.map_eq_some_iff, Prod.mk.injEq] at hwr
        obtain ⟨sz', hz, rfl, rfl, rfl⟩ := hwr
        have hst : sstore P H t n' off' (sval tm x) = some H' := by
          unfold sopG at hs
          rw [hop] at hs
          simp only [sop, hop, ha] at hs
          cases hq : sstore P H t n' off' (sval tm x) with
          | none => rw [hq] at hs; cases hs
          | some q => rw [hq] at hs; simp only [OR.heap.injEq] at hs; rw [hs]
        exact fun c hc => Keeps.store hop ha hz (List.all_eq_true.1 hcl c hc) hst

/-- Nothing that is ahead of it is left. -/
theorem flushed {ar : AnyR} {i : Nat} (h : ¬ ((ar.pend.any fun u => ((befores ar.ops.toList).getD i 0).testBit u) || (ar.resv.any fun u => ((befores ar.ops.toList).getD i 0).testBit u.1)) = true) :
    ∀ u, (u ∈ ar.pend ∨ ∃ n, (u, n) ∈ ar.resv) → ¬ Bf ar.ops.toList u i := by
  intro u hu hb
  apply h
  rw [Bool.or_eq_true, List.any_eq_true, List.any_eq_true]
  rcases hu with hu | ⟨n, hu⟩
  · exact .inl ⟨u, hu, hb⟩
  · exact .inr ⟨(u, n), hu, hb⟩

theorem enter_noAsg {P : Program} {tm : List SV} {gd : List (Tmp × Bool)} {o : Oper} {f : FuncId} {args : List SV} (hs : sopG P H tm gd o = .enter f args) : asgB o = false := by
  cases hb : asgB o with
  | false => rfl
  | true =>
    unfold asgB at hb
    split at hb
    · rename_i x hx hg
      unfold sopG at hs
      rw [hx] at hs
      simp only [sop, hx] at hs
      cases hs
    · cases hb

theorem anyOp_good {st : Stops} {i : Nat} {r : List Nat} (hc : sf.cur = some ar) (hr : ar.rest = i :: r) :
    (anyOp C.P st H sf cs ar i r).Good C I ⟨sf :: cs, H⟩ := by
  unfold anyOp
  cases ho : ar.ops[i]? with
  | none => trivial
  | some o =>
    simp only
    cases hw : wantedS ar.ops sf.tmps sf.gd o with
    | lost => trivial
    | ask t c => exact askB_any hc t
    | no =>
      refine Sim.soft hc hr ho fun hok => ⟨o, ho, .inl ⟨?_, fun d hd hl => setT_self hd hl⟩⟩
      rw [wantedS_congr o (self_agree hok ho (.tp []))]; exact hw
    | yes =>
      simp only
      rcases opKind_cases o.op with hk | hk | hk
      · rw [hk]
        simp only
        cases hs : sopG C.P H sf.tmps sf.gd o with
        | val x =>
          refine Sim.soft hc hr ho fun hok => ⟨o, ho, .inr ⟨?_, hk, x, ?_, fun d hd hl => setT_self hd hl⟩⟩
          · rw [wantedS_congr o (self_agree hok ho x)]; exact hw
          · rw [sopG_congr (ops := ar.ops.toList) o (self_agree hok ho x)]; exact .inl hs
        | br t c => exact askB_any hc t
        | need c x =>
          refine ⟨fun hcc => ?_, fun _ => Sim.refl _⟩
          refine Sim.soft hc hr ho fun hok => ⟨o, ho, .inr ⟨?_, hk, x, ?_, fun d hd hl => setT_self hd hl⟩⟩
          · rw [wantedS_congr o (self_agree hok ho x)]; exact hw
          · rw [sopG_congr (ops := ar.ops.toList) o (self_agree hok ho x)]; exact .inr ⟨c, hs, hcc⟩
        | new nk ks T => trivial
        | heap H' => trivial
        | enter f args => trivial
        | map q => trivial
        | hobj n q => trivial
        | stop => trivial
      · rw [hk]
        simp only
        split
        case h_2 => trivial
        case h_1 nk ks T d hs hd =>
          split
          case isFalse => trivial
          case isTrue hdl =>
            have hdl' : d < sf.tmps.length := by simpa [Nat.blt_eq] using hdl
            intro ρ w fr inner h
            obtain ⟨tm, L, U, rfl, hA⟩ := h.any hc
            refine ⟨ρ, w, _, inner, fun cs' => Steps.refl _ _, ?_⟩
            refine h.turn (sf' := { sf.setT (some d) (nk.sv H.length) with cur := some { ar with rest := r, resv := (i, H.length) :: ar.resv } }) (h.holds.reserve ks T) (Moves.refl ρ w) ?_ (setT_f (some d) (nk.sv H.length))
              (fun c _ => Keeps.append _ c) (fun _ _ _ _ => rfl) ?_
            · exact FrRel.mk_any (P := C.P) (sf' := { sf.setT (some d) (nk.sv H.length) with cur := some { ar with rest := r, resv := (i, H.length) :: ar.resv } }) (ar' := { ar with rest := r, resv := (i, H.length) :: ar.resv }) rfl
                (hA.softNew h.holds hr ho hd hdl' hw hk hs)
            · have hn := h.tops
              rw [resN_any hc] at hn
              rw [resN_any (sf' := { sf.setT (some d) (nk.sv H.length) with cur := some { ar with rest := r, resv := (i, H.length) :: ar.resv } }) rfl]
              simp only [List.map_cons, List.cons_append]
              refine List.nodup_cons.2 ⟨fun hm => ?_, hn⟩
              rcases List.mem_append.1 hm with hm | hm
              · obtain ⟨⟨u, n⟩, hu, he⟩ := List.mem_map.1 hm
                simp only at he; subst he
                obtain ⟨_, _, _, _, _, _, _, _, _, _, _, _, k8⟩ := (hA.rsv u _ hu).1
                have := (List.getElem?_eq_some_iff.1 k8).1
                omega
              · obtain ⟨c, hcm, hn2⟩ := List.mem_flatMap.1 hm
                have := h.caller_lt hcm hn2
                omega
      · rw [hk]
        simp only
        split
        case isTrue => exact Sim.commit hc hr ho hk
        case isFalse hif =>
          have hflush := flushed hif
          cases hs : sopG C.P H sf.tmps sf.gd o with
          | val x =>
            intro ρ w fr inner h
            obtain ⟨_, _, _, _, hA0⟩ := h.any hc
            obtain ⟨ρ1, w1, tm1, L1, U1, hst, h1, hA, hh⟩ := h.reach hc (hard_behind hA0.ok (by obtain ⟨pre, hp, _⟩ := hA0.pre; exact ⟨pre, hp⟩) hr ho hk)
            rw [hr] at hh
            obtain ⟨L2, rfl⟩ : ∃ L2, L1 = i :: L2 := by
              cases L1 with
              | nil => simp at hh
              | cons x l => simp at hh; subst hh; exact ⟨l, rfl⟩
            have hwant := (wantedS_spec hA.tms hA.gds (ops := ar.ops) (o := o) (fun j want t x e1 e2 e3 => hA.reads ho (guard_reads e1 e2 e3))).1 hw
            have hsd := sopG_sound (P := C.P) h1.holds hA.tms hA.gds o (fun t ht => hA.reads ho (mem_reads ht rfl))
            rw [hs] at hsd
            obtain ⟨v2, hrun, hd2⟩ := hsd
            refine ⟨ρ1, w1, _, inner, fun cs' => (hst cs').trans (.one (step_op_value ho hwant hrun)), ?_⟩
            refine h1.turn (sf' := { sf.setT o.dst x with cur := some { ar with rest := r } }) h1.holds (Moves.refl ρ1 w1) ?_ (setT_f o.dst _) (fun c hcm => Keeps.refl c) (fun _ _ _ _ => rfl) ?_
            · have hA2 := hA.done hr ho (x := x) (v := v2) hd2 (.inr hflush)
              have := FrRel.mk_any (P := C.P) (sf' := { sf.setT o.dst x with cur := some { ar with rest := r } }) (ar' := { ar with rest := r }) rfl hA2
              rw [show ({ sf.setT o.dst x with cur := some { ar with rest := r } } : SFr).f = sf.f from setT_f o.dst _,
                show ({ sf.setT o.dst x with cur := some { ar with rest := r } } : SFr).todo = sf.todo from setT_todo o.dst _] at this
              exact this
            · have := h1.tops
              rw [resN_any hc] at this
              rw [resN_any (sf' := { sf.setT o.dst x with cur := some { ar with rest := r } }) rfl]; exact this
          | need c x =>
            refine ⟨fun hcc => ?_, fun _ => Sim.refl _⟩
            intro ρ w fr inner h
            obtain ⟨_, _, _, _, hA0⟩ := h.any hc
            obtain ⟨ρ1, w1, tm1, L1, U1, hst, h1, hA, hh⟩ := h.reach hc (hard_behind hA0.ok (by obtain ⟨pre, hp, _⟩ := hA0.pre; exact ⟨pre, hp⟩) hr ho hk)
            rw [hr] at hh
            obtain ⟨L2, rfl⟩ : ∃ L2, L1 = i :: L2 := by
              cases L1 with
              | nil => simp at hh
              | cons x l => simp at hh; subst hh; exact ⟨l, rfl⟩
            have hwant := (wantedS_spec hA.tms hA.gds (ops := ar.ops) (o := o) (fun j want t x e1 e2 e3 => hA.reads ho (guard_reads e1 e2 e3))).1 hw
            have hsd := sopG_sound (P := C.P) h1.holds hA.tms hA.gds o (fun t ht => hA.reads ho (mem_reads ht rfl))
            rw [hs] at hsd
            obtain ⟨v2, hrun, hd2⟩ := hsd hcc
            refine ⟨ρ1, w1, _, inner, fun cs' => (hst cs').trans (.one (step_op_value ho hwant hrun)), ?_⟩
            refine h1.turn (sf' := { sf.setT o.dst x with cur := some { ar with rest := r } }) h1.holds (Moves.refl ρ1 w1) ?_ (setT_f o.dst _) (fun c hcm => Keeps.refl c) (fun _ _ _ _ => rfl) ?_
            · have hA2 := hA.done hr ho (x := x) (v := v2) hd2 (.inr hflush)
              have := FrRel.mk_any (P := C.P) (sf' := { sf.setT o.dst x with cur := some { ar with rest := r } }) (ar' := { ar with rest := r }) rfl hA2
              rw [show ({ sf.setT o.dst x with cur := some { ar with rest := r } } : SFr).f = sf.f from setT_f o.dst _,
                show ({ sf.setT o.dst x with cur := some { ar with rest := r } } : SFr).todo = sf.todo from setT_todo o.dst _] at this
              exact this
            · have := h1.tops
              rw [resN_any hc] at this
              rw [resN_any (sf' := { sf.setT o.dst x with cur := some { ar with rest := r } }) rfl]; exact this
          | br t c => trivial
          | new nk ks T => trivial
          | map q => trivial
          | hobj n q => trivial
          | stop => trivial
          | heap H' =>
            simp only
            split
            case isFalse => trivial
            case isTrue hcl =>
              have hkeep := store_of hs hcl
              intro ρ w fr inner h
              obtain ⟨_, _, _, _, hA0⟩ := h.any hc
              obtain ⟨ρ1, w1, tm1, L1, U1, hst, h1, hA, hh⟩ := h.reach hc (hard_behind hA0.ok (by obtain ⟨pre, hp, _⟩ := hA0.pre; exact ⟨pre, hp⟩) hr ho hk)
              rw [hr] at hh
              obtain ⟨L2, rfl⟩ : ∃ L2, L1 = i :: L2 := by
                cases L1 with
                | nil => simp at hh
                | cons x l => simp at hh; subst hh; exact ⟨l, rfl⟩
              have hwant := (wantedS_spec hA.tms hA.gds (ops := ar.ops) (o := o) (fun j want t x e1 e2 e3 => hA.reads ho (guard_reads e1 e2 e3))).1 hw
              have hsd := sopG_sound (P := C.P) h1.holds hA.tms hA.gds o (fun t ht => hA.reads ho (mem_reads ht rfl))
              rw [hs] at hsd
              obtain ⟨w2, hrun, hH2, hm2⟩ := hsd
              refine ⟨ρ1, w2, _, inner, fun cs' => (hst cs').trans (.one (step_op_skipR ho hwant hrun)), ?_⟩
              refine h1.turn (sf' := { sf.setT o.dst (.tp []) with cur := some { ar with rest := r } }) hH2 hm2 ?_ (setT_f o.dst _) (fun c hcm => hkeep c (by simp [hcm])) (fun _ _ _ _ => rfl) ?_
              · have hA2 := (hA.keeps hc (hkeep sf (by simp)) (Rho.le_refl ρ1) (fun _ _ => rfl)).done hr ho (x := .tp []) (v := undef) rfl (.inr hflush)
                have := FrRel.mk_any (P := C.P) (sf' := { sf.setT o.dst (.tp []) with cur := some { ar with rest := r } }) (ar' := { ar with rest := r }) rfl hA2
                rw [show ({ sf.setT o.dst (.tp []) with cur := some { ar with rest := r } } : SFr).f = sf.f from setT_f o.dst _,
                  show ({ sf.setT o.dst (.tp []) with cur := some { ar with rest := r } } : SFr).todo = sf.todo from setT_todo o.dst _] at this
                exact this
              · have := h1.tops
                rw [resN_any hc] at this
                rw [resN_any (sf' := { sf.setT o.dst (.tp []) with cur := some { ar with rest := r } }) rfl]; exact this
          | enter f args =>
            simp only
            split
            case isTrue => trivial
            case isFalse =>
              split
              case h_2 => trivial
              case h_1 g hg =>
                intro ρ w fr inner h
                obtain ⟨_, _, _, _, hA0⟩ := h.any hc
                obtain ⟨ρ1, w1, tm1, L1, U1, hst, h1, hA, hh⟩ := h.reach hc (hard_behind hA0.ok (by obtain ⟨pre, hp, _⟩ := hA0.pre; exact ⟨pre, hp⟩) hr ho hk)
                rw [hr] at hh
                obtain ⟨L2, rfl⟩ : ∃ L2, L1 = i :: L2 := by
                  cases L1 with
                  | nil => simp at hh
                  | cons x l => simp at hh; subst hh; exact ⟨l, rfl⟩
                have hwant := (wantedS_spec hA.tms hA.gds (ops := ar.ops) (o := o) (fun j want t x e1 e2 e3 => hA.reads ho (guard_reads e1 e2 e3))).1 hw
                have hsd := sopG_sound (P := C.P) h1.holds hA.tms hA.gds o (fun t ht => hA.reads ho (mem_reads ht rfl))
                rw [hs] at hsd
                obtain ⟨vs, hvs, hrun⟩ := hsd
                obtain ⟨g1, g2, g3, tm', g4, g5⟩ := enter_frame hg hvs
                obtain ⟨t1, t2, t3⟩ := h1.top
                refine ⟨ρ1, w1, Frame.enter C.P f vs.toArray .normal, mkF sf.f tm1 (.inRegion ar.ops (i :: L2) :: sf.todo) :: inner, fun cs' => (hst cs').trans (.one ?_), h1.holds, h1.moves, h1.imm, ?_, g, sf :: cs, rfl, ?_, .cons ?_ t2, ?_⟩
                · exact step_op_enter ho hwant (hrun w1)
                · have := h1.names
                  simp only [List.flatMap_cons, resN_plain g2, List.nil_append] at this ⊢
                  exact this
                · rw [g4, ← g1]
                  exact FrRel.mk_plain (C := C) g2 g5 (by rw [g3]; intro t d hl; cases hl)
                · unfold FrRelC
                  rw [hc]
                  exact ⟨tm1, L2, U1, i, r, hr, rfl, hA, fun o' ho' => by rw [ho] at ho'; cases ho'; exact enter_noAsg hs⟩
                · cases cs <;> exact t3

/-- A region that draws begins. -/
theorem Sim.begin (hc : sf.cur = none) {id : Nat} {ops : Array Oper} {k : List Item} (ht : sf.todo = .code (.region id ops true) :: k) (hok : regionOK ops.toList = true) (hm : C.P.follows .mixedOrders = true) :
    Sim C I ⟨sf :: cs, H⟩ ⟨{ sf with cur := some ⟨ops, norder ops.toList, [], []⟩, todo := k } :: cs, H⟩ := by
  intro ρ w fr inner h
  obtain ⟨tm, rfl, hT, hg⟩ := h.plain hc
  have hR := regOK_of hok
  obtain ⟨s1, s2, s3, s4⟩ := schedule_spec hR (w.tape w.drawn (.order sf.f id))
  refine ⟨ρ, { w with drawn := w.drawn + 1 }, mkF sf.f tm (.inRegion ops (Region.schedule true ops (w.tape w.drawn (.order sf.f id))) :: k), inner, fun cs' => .one ?_, ?_⟩
  · have := step_region_draw (P := C.P) (b := mkF sf.f #[] []) (a := ⟨tm, []⟩) (k := k) (cs := inner ++ cs') (w := w) (ops := ops) (id := id)
    rw [hm] at this
    rw [ht]; exact this
  · refine h.turn (sf' := { sf with cur := some ⟨ops, norder ops.toList, [], []⟩, todo := k }) h.holds.drew Moves.drew ?_ rfl (fun c _ => Keeps.refl c) (fun _ _ _ _ => rfl) ?_
    · refine FrRel.mk_any (sf' := { sf with cur := some ⟨ops, norder ops.toList, [], []⟩, todo := k }) (ar' := ⟨ops, norder ops.toList, [], []⟩) (U := []) rfl
        ⟨hR, ⟨[], rfl, fun u hu => by rcases hu with hu | ⟨n, hu⟩ <;> cases hu⟩, s1, fun i => ?_, fun u hu => (by cases hu), s3, s4, ⟨hT.size, fun t _ => hT.den t (fun h => h)⟩, hg, fun u hu => (by cases hu), fun u n hu => (by cases hu)⟩
      rw [s2 i]
      simp only [hR.mem i, List.not_mem_nil, or_false]
      simp
    · have := h.callers
      rw [resN_any (sf' := { sf with cur := some ⟨ops, norder ops.toList, [], []⟩, todo := k }) rfl]
      simpa using this

/-- A region that draws has come to its end. -/
theorem Sim.over (hc : sf.cur = some ar) (hr : ar.rest = []) : Sim C I ⟨sf :: cs, H⟩ ⟨{ sf with cur := none } :: cs, livenAll H ar.resv⟩ := by
  intro ρ w fr inner h
  obtain ⟨ρ1, w1, tm1, L1, U1, hst, h1, hA, hh⟩ := h.reach hc (fun e r he => by rw [hr] at he; cases he)
  rw [hr] at hh
  have hL : L1 = [] := by cases L1 with
    | nil => rfl
    | cons x l => simp at hh
  subst hL
  have hU : ∀ u, u ∉ U1 := fun u hu => by have := (hA.mem u).2 (.inr hu); cases this
  obtain ⟨hH2, hload, hrow⟩ := livenAll_spec (P := C.P) (l := ar.resv) h1.holds (fun u n hu => (hA.rsv u n hu).2.2 (hU u))
  refine ⟨ρ1, w1, mkF sf.f tm1 sf.todo, inner, fun cs' => (hst cs').trans (.one ?_), ?_⟩
  · exact step_region_end (P := C.P) (b := mkF sf.f #[] []) (a := ⟨tm1, []⟩) (k := sf.todo) (cs := inner ++ cs') (w := w1) (ops := ar.ops)
  · refine h1.turn (sf' := { sf with cur := none }) hH2 (Moves.refl ρ1 w1) ?_ rfl (fun c hcm => ⟨fun _ _ _ _ _ _ _ _ _ _ _ _ _ hl => hload _ _ _ _ hl, fun n hn ks T hl => hrow n _ (fun u hu => ?_) hl⟩) (fun _ _ _ _ => rfl) ?_
    · exact FrRel.mk_plain (C := C) (sf' := { sf with cur := none }) rfl ⟨hA.tms.size, fun t _ => hA.tms.den t (by rintro ⟨u, hu, _⟩; exact hU u hu)⟩ hA.gds
    · exact h1.callers_apart hc hcm hn (List.mem_map.2 ⟨(u, n), hu, rfl⟩)
    · rw [resN_plain (sf' := { sf with cur := none }) rfl]; simpa using h1.callers

/-! ### results -/

def rvS (tm : Array Value) : ResultVar → Sem Value
  | .tmp t => pure (tm.getD t undef)
  | .cell a t => do loadVar t (← asAddr (tm.getD a undef))

theorem resS_run {P : Program} {sm : List SV} {tm : Array Value} (hH : Holds ρ H w) (hT : TmRel ρ (fun _ => False) sm tm) : ∀ {l : List ResultVar} {xs : List SV}, resS P H sm l = some xs →
    ∃ vs, SV.denL ρ xs = some vs ∧ (l.mapM (rvS tm)).run P w = .ok vs w
  | [], xs, h => by
    simp only [resS, Option.some.injEq] at h; subst h
    exact ⟨[], rfl, by simp⟩
  | .tmp t :: r, xs, h => by
    simp only [resS, Option.map_eq_some_iff] at h
    obtain ⟨l, hl, rfl⟩ := h
    obtain ⟨vs, hv, hrun⟩ := resS_run hH hT hl
    refine ⟨_, denL_mk (hT.den t id) hv, ?_⟩
    simp only [List.mapM_cons, Sem.run_bind, rvS, Sem.run_pure, Result.andThen_ok, hrun]
  | .cell a t :: r, xs, h => by
    simp only [resS, Option.bind_eq_some_iff, Option.map_eq_some_iff] at h
    obtain ⟨x, hx, l, hl, rfl⟩ := h
    obtain ⟨vs, hv, hrun⟩ := resS_run hH hT hl
    split at hx
    case h_2 => cases hx
    case h_1 n off e =>
      obtain ⟨b, v, hb, hload, hd⟩ := run_loadVar hH hx
      have ha := hT.den a id
      rw [e] at ha
      obtain ⟨b', hb', hav⟩ := den_p ha
      rw [hb] at hb'; cases hb'
      refine ⟨_, denL_mk hd hv, ?_⟩
      simp only [List.mapM_cons, Sem.run_bind, rvS, hav, asAddr, Sem.run_pure, Result.andThen_ok, hload, hrun]

theorem results_eq (fn : Func) (tm : Array Value) : results fn tm = (do
    let vs ← fn.results.mapM (rvS tm)
    pure (if h : vs.size = 1 then vs[0] else .tuple vs)) := by
  unfold results
  congr 1

theorem results_run {P : Program} {fn : Func} {sm : List SV} {tm : Array Value} (hH : Holds ρ H w) (hT : TmRel ρ (fun _ => False) sm tm) {xs : List SV} (h : resS P H sm fn.results.toList = some xs) :
    ∃ v, (oneOf xs).den ρ = some v ∧ (results fn tm).run P w = .ok v w := by
  obtain ⟨vs, hv, hrun⟩ := resS_run hH hT h
  have hlen := denL_length hv
  have hres : ∀ v, v = (if h : vs.toArray.size = 1 then vs.toArray[0] else .tuple vs.toArray) → (results fn tm).run P w = .ok v w := by
    intro v hv'
    rw [results_eq, Array.mapM_eq_mapM_toList]
    simp only [Sem.run_bind, Sem.run_map, hrun, Result.andThen_ok, Sem.run_pure]
    rw [hv']
  unfold oneOf
  split
  · rename_i x
    obtain ⟨v, us, rfl, h1, h2⟩ := denL_cons hv
    simp [SV.denL] at h2; subst h2
    exact ⟨v, h1, hres v (by simp)⟩
  · rename_i hne
    refine ⟨.tuple vs.toArray, by simp only [SV.den, hv]; rfl, hres _ ?_⟩
    rw [dif_neg]
    intro e
    have : vs.length = 1 := by simpa using e
    rw [this] at hlen
    match xs, hlen, hne with
    | [y], _, hne => exact hne y rfl

/-- The frame that returns. -/
theorem ret_step {P : Program} {f : FuncId} {tm : Array Value} {todo : List Item} (ht : todo = [] ∨ ∃ k, todo = .code .ret :: k) (cs : List Frame) (w : World) :
    step P (lone (mkF f tm todo) cs w) = .next (lone { mkF f tm todo with mode := .returning } cs w) := by
  rcases ht with rfl | ⟨k, rfl⟩
  · exact step_end (P := P) (b := mkF f #[] []) (a := ⟨tm, []⟩) (cs := cs) (w := w)
  · exact step_ret (P := P) (b := mkF f #[] []) (a := ⟨tm, []⟩) (k := k) (cs := cs) (w := w)

theorem finishS_any {c : SFr} {b : Frame} {x : SV} {v : Value} (hb : FrRelC C.P ρ H c b) (hd : x.den ρ = some v) (hc : c.cur = some ar) {i : Nat} {r : List Nat} (hr : ar.rest = i :: r) {o : Oper} (ho : ar.ops[i]? = some o) :
    FrRel C.P ρ H { c.setT o.dst x with cur := some { ar with rest := r } } (b.finish v) := by
  unfold FrRelC at hb
  rw [hc] at hb
  obtain ⟨tm, L, U, i', r', hr', rfl, hA, hna⟩ := hb
  rw [hr] at hr'
  simp only [List.cons.injEq] at hr'
  obtain ⟨rfl, rfl⟩ := hr'
  have hfin : (mkF c.f tm (.inRegion ar.ops (i :: L) :: c.todo)).finish v = mkF c.f (putA tm o.dst v) (.inRegion ar.ops L :: c.todo) := by
    have := Frame.finish_at (mkF c.f #[] []) ⟨tm, []⟩ ar.ops i L c.todo v
    rw [ho] at this
    simp only [Option.bind_some, put_eq] at this
    exact this
  rw [hfin]
  have := FrRel.mk_any (P := C.P) (sf' := { c.setT o.dst x with cur := some { ar with rest := r } }) (ar' := { ar with rest := r }) rfl (hA.done hr ho hd (.inl (hna o ho)))
  rw [show ({ c.setT o.dst x with cur := some { ar with rest := r } } : SFr).f = c.f from setT_f o.dst _,
    show ({ c.setT o.dst x with cur := some { ar with rest := r } } : SFr).todo = c.todo from setT_todo o.dst _] at this
  exact this

theorem finishS_plain {c : SFr} {b : Frame} {x : SV} {v : Value} (hb : FrRelC C.P ρ H c b) (hd : x.den ρ = some v) (hc : c.cur = none) {ops : Array Oper} {i : Nat} {r : List Nat} {k : List Item}
    (ht : c.todo = .inRegion ops (i :: r) :: k) {o : Oper} (ho : ops[i]? = some o) : FrRel C.P ρ H { c.setT o.dst x with todo := .inRegion ops r :: k } (b.finish v) := by
  unfold FrRelC at hb
  rw [hc] at hb
  obtain ⟨tm, rfl, hT, hg⟩ := hb
  have hfin : (mkF c.f tm c.todo).finish v = mkF c.f (putA tm o.dst v) (.inRegion ops r :: k) := by
    rw [ht]
    have := Frame.finish_at (mkF c.f #[] []) ⟨tm, []⟩ ops i r k v
    rw [ho] at this
    simp only [Option.bind_some, put_eq] at this
    exact this
  have hc' : ({ c.setT o.dst x with todo := .inRegion ops r :: k } : SFr).cur = none := by rw [← hc]; exact setT_cur o.dst x
  rw [hfin]
  have := FrRel.mk_plain (C := C) (H := H) (ρ := ρ) (sf' := { c.setT o.dst x with todo := .inRegion ops r :: k }) (tm := putA tm o.dst v) hc' (setT_rel hT hd fun _ _ _ => id) (setT_gd hg o.dst x)
  rw [show ({ c.setT o.dst x with todo := .inRegion ops r :: k } : SFr).f = c.f from setT_f o.dst x] at this
  exact this

theorem finishS_sound {c c' : SFr} {b : Frame} {x : SV} {v : Value} (h : finishS x c = some c') (hb : FrRelC C.P ρ H c b) (hd : x.den ρ = some v) : FrRel C.P ρ H c' (b.finish v) ∧ c'.f = c.f ∧ resN c' = resN c := by
  obtain ⟨f, tmps, gd, cur, todo⟩ := c
  cases cur with
  | some ar =>
    obtain ⟨ops, rest, pend, resv⟩ := ar
    cases rest with
    | nil => cases h
    | cons i r =>
      cases ho : ops[i]? with
      | none => simp [finishS, ho] at h
      | some o =>
        simp only [finishS, ho, Option.map_some, Option.some.injEq] at h
        subst h
        exact ⟨finishS_any hb hd rfl rfl ho, setT_f (sf := ⟨f, tmps, gd, some ⟨ops, i :: r, pend, resv⟩, todo⟩) o.dst x, rfl⟩
  | none =>
    cases todo with
    | nil => cases h
    | cons t k =>
      cases t with
      | inRegion ops l =>
        cases l with
        | nil => cases h
        | cons i r =>
          cases ho : ops[i]? with
          | none => simp [finishS, ho] at h
          | some o =>
            simp only [finishS, ho, Option.map_some, Option.some.injEq] at h
            subst h
            refine ⟨finishS_plain hb hd rfl rfl ho, setT_f (sf := ⟨f, tmps, gd, none, .inRegion ops (i :: r) :: k⟩) o.dst x, ?_⟩
            rw [resN_plain (sf' := ⟨f, tmps, gd, none, .inRegion ops (i :: r) :: k⟩) rfl]
            exact resN_plain (setT_cur (sf := ⟨f, tmps, gd, none, .inRegion ops (i :: r) :: k⟩) o.dst x)
      | _ => cases h

theorem retS_good (hc : sf.cur = none) (ht : sf.todo = [] ∨ ∃ k, sf.todo = .code .ret :: k) : (retS C.P H sf cs).Good C I ⟨sf :: cs, H⟩ := by
  unfold retS
  cases hf : C.P.funcs[sf.f]? with
  | none => trivial
  | some fn =>
    simp only [Option.bind_some]
    cases hres : resS C.P H sf.tmps fn.results.toList with
    | none => trivial
    | some xs =>
      simp only
      cases cs with
      | nil =>
        intro hQ ρ w fr inner h cs'
        obtain ⟨tm, rfl, hT, hg⟩ := h.plain hc
        obtain ⟨v, hd, hrun⟩ := results_run h.holds hT hres
        obtain ⟨t1, t2, t3⟩ := h.top
        cases t2
        refine ⟨.returned v, w, { mkF sf.f tm sf.todo with mode := .returning }, ⟨_, _, ρ, I, v, rfl, hd, h.holds, h.moves, h.imm, hQ⟩, .one (ret_step ht cs' w), t3, rfl, rfl, rfl, fn, hf, hrun⟩
      | cons c cs =>
        simp only
        cases hfin : finishS (oneOf xs) c with
        | none => trivial
        | some c' =>
          intro ρ w fr inner h
          obtain ⟨tm, rfl, hT, hg⟩ := h.plain hc
          obtain ⟨v, hd, hrun⟩ := results_run h.holds hT hres
          obtain ⟨t1, t2, t3⟩ := h.top
          cases t2 with
          | cons hb tl =>
            rename_i b inner'
            obtain ⟨f1, f2, f3⟩ := finishS_sound hfin hb hd
            refine ⟨ρ, w, b.finish v, inner', fun cs' => ?_, h.holds, h.moves, h.imm, ?_, c', cs, rfl, f1, tl, ?_⟩
            · refine .head (ret_step ht (b :: inner' ++ cs') w) (.one ?_)
              exact step_leave_returned (c := b) (cs := inner' ++ cs') ⟨rfl, rfl, rfl, fn, hf, hrun⟩
            · have := h.names
              simp only [List.flatMap_cons, resN_plain hc, List.nil_append] at this ⊢
              rw [f3]; exact this
            · rw [lastF_eq f2]; exact t3

/-- Every step of the symbolic machine is good. -/
theorem sstep_good (hm : C.P.follows .mixedOrders = true) (st : Stops) (S : SS) : (sstep C.P st S).Good C I S := by
  obtain ⟨frames, H⟩ := S
  cases frames with
  | nil => trivial
  | cons sf cs =>
    obtain ⟨f, tmps, gd, cur, todo⟩ := sf
    cases cur with
    | some ar =>
      obtain ⟨ops, rest, pend, resv⟩ := ar
      cases rest with
      | nil => exact Sim.over (sf := ⟨f, tmps, gd, some ⟨ops, [], pend, resv⟩, todo⟩) rfl rfl
      | cons i r => exact anyOp_good (sf := ⟨f, tmps, gd, some ⟨ops, i :: r, pend, resv⟩, todo⟩) rfl rfl
    | none =>
      cases todo with
      | nil => exact retS_good (sf := ⟨f, tmps, gd, none, []⟩) rfl (.inl rfl)
      | cons x k =>
        cases x with
        | code c =>
          cases c with
          | skip => exact Sim.ctl (sf := ⟨f, tmps, gd, none, .code .skip :: k⟩) rfl k fun _ _ _ _ => step_skip
          | label l => exact Sim.ctl (sf := ⟨f, tmps, gd, none, .code (.label l) :: k⟩) rfl k fun _ _ _ _ => step_label
          | ret => exact retS_good (sf := ⟨f, tmps, gd, none, .code .ret :: k⟩) rfl (.inr ⟨k, rfl⟩)
          | seq a b => exact Sim.ctl (sf := ⟨f, tmps, gd, none, .code (.seq a b) :: k⟩) rfl _ fun _ _ _ _ => step_seq
          | block id c => exact Sim.ctl (sf := ⟨f, tmps, gd, none, .code (.block id c) :: k⟩) rfl _ fun _ _ _ _ => step_block
          | loop c => exact Sim.ctl (sf := ⟨f, tmps, gd, none, .code (.loop c) :: k⟩) rfl _ fun _ _ _ _ => step_loop
          | scope c => exact Sim.ctl (sf := ⟨f, tmps, gd, none, .code (.scope c) :: k⟩) rfl _ fun _ _ _ _ => step_lone_go (by simp [stepG, stepG.exec, Frame.at])
          | exit id =>
            cases he : exitTo id k with
            | none => simp only [sstep, he]; trivial
            | some k' =>
              simp only [sstep, he]
              exact Sim.ctl (sf := ⟨f, tmps, gd, none, .code (.exit id) :: k⟩) rfl _ fun _ _ _ _ => step_exit he
          | goto l =>
            cases he : gotoIn l k with
            | none => simp only [sstep, he]; trivial
            | some k' =>
              simp only [sstep, he]
              exact Sim.ctl (sf := ⟨f, tmps, gd, none, .code (.goto l) :: k⟩) rfl _ fun _ _ _ _ => step_goto he
          | region id ops draw =>
            cases draw with
            | false => exact Sim.ctl (sf := ⟨f, tmps, gd, none, .code (.region id ops false) :: k⟩) rfl _ fun _ _ _ _ => step_region
            | true =>
              simp only [sstep]
              split
              case isFalse => trivial
              case isTrue hok => exact Sim.begin (sf := ⟨f, tmps, gd, none, .code (.region id ops true) :: k⟩) rfl rfl hok hm
          | cond c x y =>
            have key : ∀ (q : Bool), (∀ ρ, (sval tmps c).den ρ = some (.bool q)) → Sim C I ⟨⟨f, tmps, gd, none, .code (.cond c x y) :: k⟩ :: cs, H⟩ ⟨⟨f, tmps, gd, none, .code (if q then x else y) :: k⟩ :: cs, H⟩ := by
              intro q hq ρ w fr inner h
              obtain ⟨tm, rfl, hT, hg⟩ := h.plain rfl
              have hcv : (⟨tm, []⟩ : Act).eval c = .bool q := by
                have h1 := hT.sval c fun _ _ => id
                rw [hq ρ] at h1
                exact (Option.some.inj h1).symm
              refine ⟨ρ, w, mkF f tm (.code (if q then x else y) :: k), inner, fun cs' => .one ?_, ?_⟩
              · exact step_cond (P := C.P) (b := mkF f #[] []) (a := ⟨tm, []⟩) hcv
              · refine h.turn (sf' := ⟨f, tmps, gd, none, .code (if q then x else y) :: k⟩) h.holds (Moves.refl ρ w) ?_ rfl (fun c _ => Keeps.refl c) (fun _ _ _ _ => rfl) ?_
                · exact FrRel.mk_plain (sf' := ⟨f, tmps, gd, none, .code (if q then x else y) :: k⟩) rfl hT hg
                · rw [resN_plain (sf' := ⟨f, tmps, gd, none, .code (if q then x else y) :: k⟩) rfl]; simpa using h.callers
            simp only [sstep]
            split
            · rename_i e; exact key true fun ρ => by rw [e]; rfl
            · rename_i e; exact key false fun ρ => by rw [e]; rfl
            · rename_i q e
              refine ⟨fun hq => ?_, fun hq => ?_⟩
              · subst hq; exact key true fun ρ => by rw [e]; rfl
              · subst hq; exact key false fun ρ => by rw [e]; rfl
            · trivial
          | rangeFunc => trivial
          | refuse => trivial
        | inBlock id => exact Sim.ctl (sf := ⟨f, tmps, gd, none, .inBlock id :: k⟩) rfl k fun _ _ _ _ => step_inBlock
        | inScope c => exact Sim.ctl (sf := ⟨f, tmps, gd, none, .inScope c :: k⟩) rfl k fun _ _ _ _ => step_lone_go (by simp [stepG, stepG.exec, Frame.at])
        | inLoop c => exact Sim.ctl (sf := ⟨f, tmps, gd, none, .inLoop c :: k⟩) rfl _ fun _ _ _ _ => step_inLoop
        | inRegion ops l =>
          cases l with
          | nil => exact Sim.ctl (sf := ⟨f, tmps, gd, none, .inRegion ops [] :: k⟩) rfl k fun _ _ _ _ => step_region_end
          | cons i r => exact plainOp_good (sf := ⟨f, tmps, gd, none, .inRegion ops (i :: r) :: k⟩) rfl rfl
        | inRangeFunc => trivial
        | endRangeFunc => trivial
        | beginRound => trivial
        | call => trivial
        | extern => trivial

def AR.Good (C : Ctx) (I : Imm) (S : SS) : AR → Prop
  | .at obs S' => (∀ p ∈ obs, p.1 = p.2) → WPs C I S' → WPs C I S
  | .done obs x H => (∀ p ∈ obs, p.1 = p.2) → C.Q x H I → WPs C I S

/-- The theorem: what is gone through here holds there. -/
theorem adv_good (hm : C.P.follows .mixedOrders = true) (st : Stops) : ∀ (n : Nat) (ds : List Bool) (obs : List (Bool × Bool)) (S0 S : SS),
    ((∀ p ∈ obs, p.1 = p.2) → WPs C I S → WPs C I S0) → (adv C.P st n ds obs S).Good C I S0
  | 0, ds, obs, S0, S, h => h
  | n + 1, ds, obs, S0, S, h => by
    have hg := sstep_good (C := C) (I := I) hm st S
    unfold adv
    cases hs : sstep C.P st S with
    | next S' =>
      rw [hs] at hg
      exact adv_good hm st n ds obs S0 S' fun ho hw => h ho (Sim.wp hg hw)
    | br c St Sf =>
      rw [hs] at hg
      simp only
      cases ds with
      | nil => exact h
      | cons d ds =>
        cases d with
        | true => exact adv_good hm st n ds _ S0 St fun ho hw => h (fun p hp => ho p (by simp [hp])) (Sim.wp (hg.1 (ho (c, true) (by simp))) hw)
        | false => exact adv_good hm st n ds _ S0 Sf fun ho hw => h (fun p hp => ho p (by simp [hp])) (Sim.wp (hg.2 (ho (c, false) (by simp))) hw)
    | done x H =>
      rw [hs] at hg
      exact fun ho hQ => h ho (hg hQ)
    | stop => exact h

end
end Go.Rl
