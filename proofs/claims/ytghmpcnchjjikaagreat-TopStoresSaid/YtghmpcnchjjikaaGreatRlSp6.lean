/-
  What the symbolic machine says is what the machine does (6): steps of a plain frame.
-/
import Derived.Test.YtghmpcnchjjikaaGreatRlSp5
set_option linter.all false
set_option linter.unusedVariables false
set_option linter.unusedSimpArgs false
set_option linter.unnecessarySimpa false
namespace Go.Rl
open Go

section
variable {C : Ctx} {I : Imm} {H H' : List SO} {sf : SFr} {cs : List SFr} {ρ : Rho} {w : World} {fr : Frame} {inner : List Frame}

theorem St.plain (h : St C I ⟨sf :: cs, H⟩ ρ w fr inner) (hc : sf.cur = none) :
    ∃ tm, fr = mkF sf.f tm sf.todo ∧ TmRel ρ (fun _ => False) sf.tmps tm ∧ GdOK sf.gd sf.tmps := by
  have := h.top.1
  unfold FrRel at this
  rw [hc] at this
  exact this

theorem FrRel.mk_plain {ρ : Rho} {sf' : SFr} {tm : Array Value} (hc : sf'.cur = none) (hT : TmRel ρ (fun _ => False) sf'.tmps tm) (hg : GdOK sf'.gd sf'.tmps) :
    FrRel C.P ρ H sf' (mkF sf'.f tm sf'.todo) := by
  unfold FrRel
  rw [hc]
  exact ⟨tm, rfl, hT, hg⟩

theorem resN_plain {sf' : SFr} (hc : sf'.cur = none) : resN sf' = [] := by unfold resN; rw [hc]

theorem Sim.ctl (hc : sf.cur = none) (k' : List Item)
    (hst : ∀ (b : Frame) (a : Act) (cs' : List Frame) (w : World), step C.P (lone (b.at a sf.todo) cs' w) = .next (lone (b.at a k') cs' w)) :
    Sim C I ⟨sf :: cs, H⟩ ⟨{ sf with todo := k' } :: cs, H⟩ := by
  intro ρ w fr inner h
  obtain ⟨tm, rfl, hT, hg⟩ := h.plain hc
  refine ⟨ρ, w, mkF sf.f tm k', inner, fun cs' => .one (hst (mkF sf.f #[] []) ⟨tm, []⟩ (inner ++ cs') w), ?_⟩
  refine h.turn (sf' := { sf with todo := k' }) h.holds (Moves.refl ρ w) ?_ rfl (fun c _ => Keeps.refl c) (fun _ _ _ _ => rfl) ?_
  · exact FrRel.mk_plain (sf' := { sf with todo := k' }) hc hT hg
  · rw [resN_plain (sf' := { sf with todo := k' }) hc]; simpa using h.callers

theorem setT_cur (d : Option Tmp) (x : SV) : (sf.setT d x).cur = sf.cur := by cases d <;> rfl
theorem setT_f (d : Option Tmp) (x : SV) : (sf.setT d x).f = sf.f := by cases d <;> rfl
theorem setT_todo (d : Option Tmp) (x : SV) : (sf.setT d x).todo = sf.todo := by cases d <;> rfl
theorem setT_len (d : Option Tmp) (x : SV) : (sf.setT d x).tmps.length = sf.tmps.length := by cases d <;> simp [SFr.setT]

theorem setT_gd (hg : GdOK sf.gd sf.tmps) (d : Option Tmp) (x : SV) : GdOK (sf.setT d x).gd (sf.setT d x).tmps := by
  cases d with
  | none => exact hg
  | some t => exact hg.set t x

theorem setT_rel {skip skip' : Tmp → Prop} {tm : Array Value} (h : TmRel ρ skip sf.tmps tm) {d : Option Tmp} {x : SV} {v : Value} (hd : x.den ρ = some v) (hs : ∀ u, ¬ skip' u → d ≠ some u → ¬ skip u) :
    TmRel ρ skip' (sf.setT d x).tmps (putA tm d v) := by
  cases d with
  | none => exact ⟨h.size, fun t ht => h.den t (hs t ht (by simp))⟩
  | some t => exact h.set hd fun u hu hut => hs u hu (by simpa using (Ne.symm hut))

theorem setT_get {d : Option Tmp} {x : SV} {t : Tmp} (h : d ≠ some t) : (sf.setT d x).tmps.getD t (.tp []) = sf.tmps.getD t (.tp []) ∧ (sf.setT d x).gd.lookup t = sf.gd.lookup t := by
  cases d with
  | none => exact ⟨rfl, rfl⟩
  | some u =>
    have hut : u ≠ t := fun e => h (by rw [e])
    exact ⟨getD_set_ne hut, lookup_filter (Ne.symm hut)⟩

/-- Any step of one operation that leaves the frame's region. -/
theorem Sim.op {ops : Array Oper} {i : Nat} {r : List Nat} {k : List Item} (hc : sf.cur = none) (ht : sf.todo = .inRegion ops (i :: r) :: k) (x : SV) (d : Option Tmp)
    (hrun : ∀ ρ w fr inner tm, St C I ⟨sf :: cs, H⟩ ρ w fr inner → TmRel ρ (fun _ => False) sf.tmps tm → GdOK sf.gd sf.tmps →
      ∃ ρ' w' v, (∀ cs', step C.P (lone (mkF sf.f tm sf.todo) cs' w) = .next (lone (mkF sf.f (putA tm d v) (.inRegion ops r :: k)) cs' w')) ∧ x.den ρ' = some v ∧
        Holds ρ' H' w' ∧ Moves ρ ρ' w w' ∧ (∀ c ∈ cs, Keeps C.P H H' c) ∧ (∀ c ∈ cs, ∀ n ∈ resN c, ρ' n = ρ n)) :
    Sim C I ⟨sf :: cs, H⟩ ⟨{ sf.setT d x with todo := .inRegion ops r :: k } :: cs, H'⟩ := by
  intro ρ w fr inner h
  obtain ⟨tm, rfl, hT, hg⟩ := h.plain hc
  obtain ⟨ρ', w', v, hst, hd, hH, hm, hk, hn⟩ := hrun ρ w _ inner tm h hT hg
  refine ⟨ρ', w', mkF sf.f (putA tm d v) (.inRegion ops r :: k), inner, fun cs' => .one (hst _), ?_⟩
  refine h.turn (sf' := { sf.setT d x with todo := .inRegion ops r :: k }) hH hm ?_ (setT_f d x) hk hn ?_
  · have := FrRel.mk_plain (C := C) (H := H') (ρ := ρ') (sf' := { sf.setT d x with todo := .inRegion ops r :: k }) (tm := putA tm d v) (by rw [← hc]; exact setT_cur d x) (setT_rel (hT.mono hm.le) hd fun _ _ _ => id) (setT_gd hg d x)
    rw [show ({ sf.setT d x with todo := .inRegion ops r :: k } : SFr).f = sf.f from setT_f d x] at this
    exact this
  · rw [resN_plain (sf' := { sf.setT d x with todo := .inRegion ops r :: k }) (by rw [← hc]; exact setT_cur d x)]; simpa using h.callers

theorem Sim.decide (hc : sf.cur = none) {t : Tmp} {q d : Bool} (ht : sf.tmps.getD t (.tp []) = .v (.bool q)) (hq : q = d) : Sim C I ⟨sf :: cs, H⟩ ⟨{ sf with gd := (t, d) :: sf.gd } :: cs, H⟩ := by
  intro ρ w fr inner h
  obtain ⟨tm, rfl, hT, hg⟩ := h.plain hc
  refine ⟨ρ, w, mkF sf.f tm sf.todo, inner, fun cs' => Steps.refl _ _, ?_⟩
  refine h.turn (sf' := { sf with gd := (t, d) :: sf.gd }) h.holds (Moves.refl ρ w) ?_ rfl (fun c _ => Keeps.refl c) (fun _ _ _ _ => rfl) ?_
  · exact FrRel.mk_plain (sf' := { sf with gd := (t, d) :: sf.gd }) hc hT (hg.cons ht hq)
  · rw [resN_plain (sf' := { sf with gd := (t, d) :: sf.gd }) hc]; simpa using h.callers

/-- What a step of the symbolic machine is good for. -/
def SRes.Good (C : Ctx) (I : Imm) (S : SS) : SRes → Prop
  | .next S' => Sim C I S S'
  | .br c St Sf => (c = true → Sim C I S St) ∧ (c = false → Sim C I S Sf)
  | .done x H => C.Q x H I → WPs C I S
  | .stop => True

theorem askB_good (hc : sf.cur = none) (t : Tmp) : (askB H sf cs t).Good C I ⟨sf :: cs, H⟩ := by
  unfold askB
  split
  · rename_i q h1 h2
    exact ⟨fun e => Sim.decide hc h1 e, fun e => Sim.decide hc h1 e⟩
  · trivial

theorem enter_frame {P : Program} {f : FuncId} {args : List SV} {vs : List Value} {g : SFr} (h : enterS P f args = some g) (hv : SV.denL ρ args = some vs) :
    g.f = f ∧ g.cur = none ∧ g.gd = [] ∧ ∃ tm, Frame.enter P f vs.toArray .normal = mkF f tm g.todo ∧ TmRel ρ (fun _ => False) g.tmps tm := by
  unfold enterS at h
  cases hf : P.funcs[f]? with
  | none => simp [hf] at h
  | some fn =>
    cases hb : fn.body with
    | none => simp [hf, hb] at h
    | some c =>
      simp only [hf, hb, Option.bind_some, Option.map_some, Option.some.injEq] at h
      subst h
      refine ⟨rfl, rfl, rfl, vs.toArray ++ Array.replicate (fn.ntmps - vs.toArray.size) undef, by simp [Frame.enter, hf, hb, mkF], ?_⟩
      have hl := denL_length hv
      refine ⟨by simp [hl], fun (t : Nat) _ => ?_⟩
      by_cases ht : t < vs.length
      · have ht' : t < args.length := by omega
        obtain ⟨v, h1, h2⟩ := denL_get hv (List.getElem?_eq_getElem ht')
        have e1 : (args ++ List.replicate (fn.ntmps - args.length) (SV.tp [])).getD t (.tp []) = args[t] := by
          simp [List.getD, List.getElem?_append_left ht', ht']
        rw [e1, h2]
        have hv' : vs[t] = v := by rw [List.getElem?_eq_getElem ht] at h1; exact Option.some.inj h1
        simp [Array.getD_eq_getD_getElem?, Array.getElem?_append_left, ht, hv']
      · have e1 : (args ++ List.replicate (fn.ntmps - args.length) (SV.tp [])).getD t (.tp []) = .tp [] := by
          simp only [List.getD, List.getElem?_append_right (show args.length ≤ t by omega), List.getElem?_replicate]
          split <;> rfl
        rw [e1]
        have e2 : (vs.toArray ++ Array.replicate (fn.ntmps - vs.toArray.size) undef).getD t undef = undef := by
          simp only [Array.getD_eq_getD_getElem?]
          rw [Array.getElem?_append_right (by simp; omega), Array.getElem?_replicate]
          split <;> rfl
        rw [e2]; rfl

theorem sload_obj {P : Program} {H : List SO} {n m : Nat} {q q' : SOb} (hn : H[n]? = some (.obj q')) {t off : Nat} {x : SV} (h : sload P H t m off = some x) : sload P (H.set n (.obj q)) t m off = some x := by
  by_cases hm : m = n
  · subst hm
    unfold sload at h
    cases ha : isAg P t <;> cases hz : tsz P t <;> simp [ha, hz, hn, ksOf] at h
  · unfold sload at h ⊢
    rw [List.getElem?_set_ne (Ne.symm hm)]
    exact h

theorem Keeps.obj {P : Program} {H : List SO} {n : Nat} {q' : SOb} (hn : H[n]? = some (.obj q')) (q : SOb) (c : SFr) : Keeps P H (H.set n (.obj q)) c := by
  refine ⟨fun _ _ _ _ _ _ _ _ _ _ _ _ _ hs => sload_obj hn hs, fun m _ ks T hr => ?_⟩
  by_cases hm : m = n
  · subst hm; rw [hn] at hr; cases hr
  · rw [List.getElem?_set_ne (Ne.symm hm)]; exact hr

theorem Sim.refl (S : SS) : Sim C I S S := fun ρ w fr inner h => ⟨ρ, w, fr, inner, fun cs => Steps.refl _ _, h⟩

theorem plainOp_good {st : Stops} {ops : Array Oper} {i : Nat} {r : List Nat} {k : List Item} (hc : sf.cur = none) (ht : sf.todo = .inRegion ops (i :: r) :: k) :
    (plainOp C.P st H sf cs ops i r k).Good C I ⟨sf :: cs, H⟩ := by
  unfold plainOp
  cases ho : ops[i]? with
  | none =>
    have := Sim.op (C := C) (I := I) (H := H) (H' := H) (cs := cs) hc ht (.tp []) none (fun ρ w fr inner tm h hT hg => ⟨ρ, w, undef, fun cs' => by
      have := step_op_unwanted (P := C.P) (f := sf.f) (tm := tm) (k := k) (cs := cs') (w := w) (ops := ops) (i := i) (rest := r) (by simp [ho])
      rw [ht]; simpa [ho, putA] using this, rfl, h.holds, Moves.refl ρ w, fun c _ => Keeps.refl c, fun _ _ _ _ => rfl⟩)
    exact this
  | some o =>
    simp only
    have hguard : ∀ {ρ : Rho} {tm : Array Value}, TmRel ρ (fun _ => False) sf.tmps tm → GdOK sf.gd sf.tmps →
        (wantedS ops sf.tmps sf.gd o = .yes → Region.wanted o (yielded ops tm) = true) ∧ (wantedS ops sf.tmps sf.gd o = .no → Region.wanted o (yielded ops tm) = false) :=
      fun hT hg => wantedS_spec hT hg fun _ _ _ _ _ _ _ => id
    cases hw : wantedS ops sf.tmps sf.gd o with
    | lost => trivial
    | ask t c => exact askB_good hc t
    | no =>
      exact Sim.op (C := C) (I := I) (H := H) (H' := H) (cs := cs) hc ht (.tp []) o.dst (fun ρ w fr inner tm h hT hg => ⟨ρ, w, undef, fun cs' => by
        have := step_op_unwanted (P := C.P) (f := sf.f) (tm := tm) (k := k) (cs := cs') (w := w) (ops := ops) (i := i) (rest := r) (by simp [ho, (hguard hT hg).2 hw])
        rw [ht]; simpa [ho] using this, rfl, h.holds, Moves.refl ρ w, fun c _ => Keeps.refl c, fun _ _ _ _ => rfl⟩)
    | yes =>
      simp only
      cases hs : sopG C.P H sf.tmps sf.gd o with
      | val x =>
        exact Sim.op (C := C) (I := I) (H := H) (H' := H) (cs := cs) hc ht x o.dst (fun ρ w fr inner tm h hT hg => by
          have hsd := sopG_sound (P := C.P) h.holds hT hg o (fun _ _ => id)
          rw [hs] at hsd
          obtain ⟨v, hrun, hd⟩ := hsd
          exact ⟨ρ, w, v, fun cs' => by rw [ht]; exact step_op_value ho ((hguard hT hg).1 hw) hrun, hd, h.holds, Moves.refl ρ w, fun c _ => Keeps.refl c, fun _ _ _ _ => rfl⟩)
      | br t c => exact askB_good hc t
      | need c x =>
        refine ⟨fun hcc => ?_, fun _ => Sim.refl _⟩
        exact Sim.op (C := C) (I := I) (H := H) (H' := H) (cs := cs) hc ht x o.dst (fun ρ w fr inner tm h hT hg => by
          have hsd := sopG_sound (P := C.P) h.holds hT hg o (fun _ _ => id)
          rw [hs] at hsd
          obtain ⟨v, hrun, hd⟩ := hsd hcc
          exact ⟨ρ, w, v, fun cs' => by rw [ht]; exact step_op_value ho ((hguard hT hg).1 hw) hrun, hd, h.holds, Moves.refl ρ w, fun c _ => Keeps.refl c, fun _ _ _ _ => rfl⟩)
      | new nk ks T =>
        exact Sim.op (C := C) (I := I) (H := H) (H' := H ++ [.row true ks [] T]) (cs := cs) hc ht (nk.sv H.length) o.dst (fun ρ w fr inner tm h hT hg => by
          have hsd := sopG_sound (P := C.P) h.holds hT hg o (fun _ _ => id)
          rw [hs] at hsd
          obtain ⟨vs, hvs, hrun⟩ := hsd
          refine ⟨ρ.put H.length w.heap.size, w.alloc (.cells vs.toArray T (0, 0)), nk.val w.heap.size, fun cs' => by rw [ht]; exact step_op_value ho ((hguard hT hg).1 hw) (hrun w), NewK.den (by simp [Rho.put]), ?_, Moves.alloc h.holds _,
            fun c _ => Keeps.append _ c, fun c hcm n hn => ?_⟩
          · simpa using h.holds.new (rest := []) (T := T) hvs
          · have := h.caller_lt hcm hn
            simp [Rho.put]; omega)
      | heap H' =>
        simp only
        split
        case isFalse => trivial
        case isTrue hcl =>
          unfold storeClear at hcl
          unfold wrote at hcl
          split at hcl
          case h_2 => cases hcl
          case h_1 n off sz hwr =>
            split at hwr
            case h_2 => cases hwr
            case h_1 t a x hop =>
              split at hwr
              case h_2 => cases hwr
              case h_1 n' off' ha =>
                simp only [Option.map_eq_some_iff, Prod.mk.injEq] at hwr
                obtain ⟨sz', hz, rfl, rfl, rfl⟩ := hwr
                have hst : sstore C.P H t n' off' (sval sf.tmps x) = some H' := by
                  unfold sopG at hs
                  rw [hop] at hs
                  simp only [sop, hop, ha] at hs
                  cases hq : sstore C.P H t n' off' (sval sf.tmps x) with
                  | none => rw [hq] at hs; cases hs
                  | some q => rw [hq] at hs; simp only [OR.heap.injEq] at hs; rw [hs]
                exact Sim.op (C := C) (I := I) (H := H) (H' := H') (cs := cs) hc ht (.tp []) o.dst (fun ρ w fr inner tm h hT hg => by
                  have hsd := sopG_sound (P := C.P) h.holds hT hg o (fun _ _ => id)
                  rw [hs] at hsd
                  obtain ⟨w', hrun, hH', hm⟩ := hsd
                  exact ⟨ρ, w', undef, fun cs' => by rw [ht]; exact step_op_skipR ho ((hguard hT hg).1 hw) hrun, rfl, hH', hm,
                    fun c hcm => Keeps.store hop ha hz (List.all_eq_true.1 hcl c hcm) hst, fun _ _ _ _ => rfl⟩)
      | map q =>
        exact Sim.op (C := C) (I := I) (H := H) (H' := H ++ [.obj q]) (cs := cs) hc ht (.mp H.length) o.dst (fun ρ w fr inner tm h hT hg => by
          have hsd := sopG_sound (P := C.P) h.holds hT hg o (fun _ _ => id)
          rw [hs] at hsd
          refine ⟨ρ.put H.length w.heap.size, w.alloc q.obj, .map (some w.heap.size), fun cs' => by rw [ht]; exact step_op_value ho ((hguard hT hg).1 hw) hsd, by simp [SV.den, Rho.put], h.holds.newObj _, Moves.alloc h.holds _,
            fun c _ => Keeps.append _ c, fun c hcm n hn => ?_⟩
          have := h.caller_lt hcm hn
          simp [Rho.put]; omega)
      | hobj n q =>
        simp only
        split
        case h_2 => trivial
        case h_1 q' hn =>
          exact Sim.op (C := C) (I := I) (H := H) (H' := H.set n (.obj q)) (cs := cs) hc ht (.tp []) o.dst (fun ρ w fr inner tm h hT hg => by
            have hsd := sopG_sound (P := C.P) h.holds hT hg o (fun _ _ => id)
            rw [hs] at hsd
            obtain ⟨w', hrun, hm, hH'⟩ := hsd
            refine ⟨ρ, w', undef, fun cs' => ?_, rfl, hH' H q' h.holds hn, hm, fun c _ => Keeps.obj hn q c, fun _ _ _ _ => rfl⟩
            rw [ht]
            rcases hrun with hrun | hrun
            · exact step_op_skipR ho ((hguard hT hg).1 hw) hrun
            · exact step_op_value ho ((hguard hT hg).1 hw) hrun)
      | enter f args =>
        simp only
        split
        case isTrue => trivial
        case isFalse =>
          split
          case h_2 => trivial
          case h_1 g hg =>
            intro ρ w fr inner h
            obtain ⟨tm, rfl, hT, hgd⟩ := h.plain hc
            have hsd := sopG_sound (P := C.P) h.holds hT hgd o (fun _ _ => id)
            rw [hs] at hsd
            obtain ⟨vs, hvs, hrun⟩ := hsd
            obtain ⟨g1, g2, g3, tm', g4, g5⟩ := enter_frame hg hvs
            obtain ⟨h1, h2, h3⟩ := h.top
            refine ⟨ρ, w, Frame.enter C.P f vs.toArray .normal, mkF sf.f tm sf.todo :: inner, fun cs' => .one ?_, h.holds, h.moves, h.imm, ?_, g, sf :: cs, rfl, ?_, .cons ?_ h2, ?_⟩
            · rw [ht]; exact step_op_enter ho ((hguard hT hgd).1 hw) (hrun w)
            · have := h.names
              simp only [List.flatMap_cons, resN_plain g2, List.nil_append] at this ⊢
              exact this
            · rw [g4, ← g1]
              exact FrRel.mk_plain (C := C) g2 g5 (by rw [g3]; intro t d hl; cases hl)
            · unfold FrRelC
              rw [hc]
              exact ⟨tm, rfl, hT, hgd⟩
            · cases cs <;> exact h3
      | stop => trivial

end
end Go.Rl
