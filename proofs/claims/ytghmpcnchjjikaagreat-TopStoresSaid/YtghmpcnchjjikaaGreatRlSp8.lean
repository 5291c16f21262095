/-
  What the symbolic machine says is what the machine does (8): a region that draws, step by step.
-/
import Derived.Test.YtghmpcnchjjikaaGreatRlSp7
set_option linter.all false
set_option linter.unusedVariables false
set_option linter.unusedSimpArgs false
set_option linter.unnecessarySimpa false
namespace Go.Rl
open Go

section
variable {P : Program} {H : List SO} {tm : List SV} {gd : List (Tmp × Bool)} {o : Oper} {ops : Array Oper} {t : Tmp} {d : Bool}

theorem lookup_cons_ne {u : Tmp} (h : u ≠ t) : ((t, d) :: gd).lookup u = gd.lookup u := by
  have : (u == t) = false := by simpa using h
  simp [List.lookup_cons, this]

theorem wantedS_cons (hl : gd.lookup t = none) {x : Wd} (hx : ∀ u c, x ≠ .ask u c) (h : wantedS ops tm gd o = x) : wantedS ops tm ((t, d) :: gd) o = x := by
  unfold wantedS at h ⊢
  cases hg : o.guard with
  | none => rw [hg] at h; exact h
  | some jw =>
    obtain ⟨j, want⟩ := jw
    rw [hg] at h
    simp only at h ⊢
    cases hj : (ops[j]?).bind fun x => x.dst with
    | none => rw [hj] at h; exact h
    | some u =>
      rw [hj] at h
      simp only at h ⊢
      by_cases hu : u = t
      · subst hu
        rw [hl] at h
        cases hsv : tm.getD u (.tp []) <;> rw [hsv] at h <;> try exact h
        rename_i y
        cases y <;> try exact h
        exact absurd h.symm (hx _ _)
      · rw [lookup_cons_ne hu]; exact h

theorem sopG_cons (hl : gd.lookup t = none) {x : OR} (hx : ∀ u c, x ≠ .br u c) (h : sopG P H tm gd o = x) : sopG P H tm ((t, d) :: gd) o = x := by
  unfold sopG at h ⊢
  split at h
  · rename_i u a b e
    split at h
    · by_cases hu : u = t
      · subst hu
        rw [hl] at h
        exact absurd h.symm (hx _ _)
      · rw [lookup_cons_ne hu]; exact h
    · exact h
  · exact h

theorem isVal_cons (hl : gd.lookup t = none) {y : SV} (h : (sopG P H tm gd o).isVal y) : (sopG P H tm ((t, d) :: gd) o).isVal y := by
  rcases h with h | ⟨c, h, hc⟩
  · exact .inl (sopG_cons hl (by simp) h)
  · exact .inr ⟨c, sopG_cons hl (by simp) h, hc⟩


theorem opKind_cases (op : Op) : opKind op = 0 ∨ opKind op = 1 ∨ opKind op = 2 := by
  cases op <;> simp only [opKind, true_or, or_true] <;> try (first | exact .inl rfl | exact .inr (.inl rfl) | exact .inr (.inr rfl))
  rename_i c
  obtain ⟨callee, args, ts⟩ := c
  cases callee with
  | value g => exact .inr (.inr rfl)
  | invoke r m => exact .inr (.inr rfl)
  | builtin b => cases b <;> first | exact .inl rfl | exact .inr (.inr rfl)

end

section
variable {C : Ctx} {I : Imm} {H H' : List SO} {sf : SFr} {cs : List SFr} {ρ : Rho} {w : World} {fr : Frame} {inner : List Frame} {ar : AnyR}

theorem St.any (h : St C I ⟨sf :: cs, H⟩ ρ w fr inner) (hc : sf.cur = some ar) :
    ∃ tm L U, fr = mkF sf.f tm (.inRegion ar.ops L :: sf.todo) ∧ AnyRel C.P ρ H sf ar L U tm := by
  have := h.top.1
  unfold FrRel at this
  rw [hc] at this
  exact this

theorem FrRel.mk_any {P : Program} {ρ : Rho} {sf' : SFr} {ar' : AnyR} {tm : Array Value} {L U : List Nat} (hc : sf'.cur = some ar') (h : AnyRel P ρ H sf' ar' L U tm) :
    FrRel P ρ H sf' (mkF sf'.f tm (.inRegion ar'.ops L :: sf'.todo)) := by
  unfold FrRel
  rw [hc]
  exact ⟨tm, L, U, rfl, h⟩

theorem St.own (h : St C I ⟨sf :: cs, H⟩ ρ w fr inner) (hc : sf.cur = some ar) : (ar.resv.map fun x => x.2).Nodup := by
  have := (List.nodup_append.1 h.tops).1
  unfold resN at this
  rw [hc] at this
  exact this

theorem St.callers_apart (h : St C I ⟨sf :: cs, H⟩ ρ w fr inner) (hc : sf.cur = some ar) {c : SFr} (hm : c ∈ cs) {n : Nat} (hn : n ∈ resN c) : n ∉ (ar.resv.map fun x => x.2) := by
  intro hn2
  have h3 := (List.nodup_append.1 h.tops).2.2
  have h4 : n ∈ resN sf := by unfold resN; rw [hc]; exact hn2
  exact h3 n h4 n (List.mem_flatMap.2 ⟨c, hm, hn⟩) rfl

theorem St.reach (h : St C I ⟨sf :: cs, H⟩ ρ w fr inner) (hc : sf.cur = some ar) (hr : ∀ e r, ar.rest = e :: r → ∀ j ∈ r, Bf ar.ops.toList e j) :
    ∃ ρ1 w1 tm1 L1 U1, StepsC C.P fr inner w (mkF sf.f tm1 (.inRegion ar.ops L1 :: sf.todo)) inner w1 ∧
      St C I ⟨sf :: cs, H⟩ ρ1 w1 (mkF sf.f tm1 (.inRegion ar.ops L1 :: sf.todo)) inner ∧ AnyRel C.P ρ1 H sf ar L1 U1 tm1 ∧ L1.head? = ar.rest.head? := by
  obtain ⟨tm, L, U, rfl, hA⟩ := h.any hc
  obtain ⟨ρ1, w1, tm1, L1, U1, hst, hH1, hm1, hA1, hn1, hh⟩ := hA.reach L.length (Nat.le_refl _) h.holds (h.own hc) hr
  refine ⟨ρ1, w1, tm1, L1, U1, hst inner, ?_, hA1, hh⟩
  exact h.turn (sf' := sf) hH1 hm1 (FrRel.mk_any hc hA1) rfl (fun c _ => Keeps.refl c) (fun c hcm n hn => hn1 n (h.callers_apart hc hcm hn)) h.tops

theorem resN_any {sf' : SFr} {ar' : AnyR} (hc : sf'.cur = some ar') : resN sf' = ar'.resv.map fun x => x.2 := by unfold resN; rw [hc]

theorem Sim.decideAny (hc : sf.cur = some ar) {t : Tmp} {q d : Bool} (ht : sf.tmps.getD t (.tp []) = .v (.bool q)) (hl : sf.gd.lookup t = none) (hq : q = d) :
    Sim C I ⟨sf :: cs, H⟩ ⟨{ sf with gd := (t, d) :: sf.gd } :: cs, H⟩ := by
  intro ρ w fr inner h
  obtain ⟨tm, L, U, rfl, hA⟩ := h.any hc
  refine ⟨ρ, w, _, inner, fun cs' => Steps.refl _ _, ?_⟩
  refine h.turn (sf' := { sf with gd := (t, d) :: sf.gd }) h.holds (Moves.refl ρ w) ?_ rfl (fun c _ => Keeps.refl c) (fun _ _ _ _ => rfl) ?_
  · refine FrRel.mk_any (sf' := { sf with gd := (t, d) :: sf.gd }) (ar' := ar) (U := U) hc ⟨hA.ok, hA.pre, hA.nodup, hA.mem, hA.sub, hA.topo, hA.closed, hA.tms, hA.gds.cons ht hq, fun u hu => ?_, fun u n hu => ?_⟩
    · obtain ⟨o, ho, hcase⟩ := hA.pnd u hu
      refine ⟨o, ho, ?_⟩
      rcases hcase with ⟨h1, h2⟩ | ⟨h1, h2, y, h3, h4⟩
      · exact .inl ⟨wantedS_cons hl (by simp) h1, h2⟩
      · exact .inr ⟨wantedS_cons hl (by simp) h1, h2, y, isVal_cons hl h3, h4⟩
    · obtain ⟨⟨o, e, nk, ks, T, k1, k2, k3, k4, k5, k6, k7, k8⟩, h2, h3⟩ := hA.rsv u n hu
      exact ⟨⟨o, e, nk, ks, T, k1, k2, k3, wantedS_cons hl (by simp) k4, k5, sopG_cons hl (by simp) k6, k7, k8⟩, h2, h3⟩
  · have := h.tops
    rw [resN_any hc] at this
    rw [resN_any (sf' := { sf with gd := (t, d) :: sf.gd }) hc]; exact this

theorem askB_any (hc : sf.cur = some ar) (t : Tmp) : (askB H sf cs t).Good C I ⟨sf :: cs, H⟩ := by
  unfold askB
  split
  · rename_i q h1 h2
    exact ⟨fun e => Sim.decideAny hc h1 h2 e, fun e => Sim.decideAny hc h1 h2 e⟩
  · trivial

/-- Gone through here alone. -/
theorem Sim.soft (hc : sf.cur = some ar) {i : Nat} {r : List Nat} (hr : ar.rest = i :: r) {o : Oper} (ho : ar.ops[i]? = some o) {x : SV}
    (hP : RegOK ar.ops.toList → PendF C.P H (sf.setT o.dst x) ar.ops i) :
    Sim C I ⟨sf :: cs, H⟩ ⟨{ sf.setT o.dst x with cur := some { ar with rest := r, pend := i :: ar.pend } } :: cs, H⟩ := by
  intro ρ w fr inner h
  obtain ⟨tm, L, U, rfl, hA⟩ := h.any hc
  refine ⟨ρ, w, _, inner, fun cs' => Steps.refl _ _, ?_⟩
  refine h.turn (sf' := { sf.setT o.dst x with cur := some { ar with rest := r, pend := i :: ar.pend } }) h.holds (Moves.refl ρ w) ?_ (setT_f o.dst x) (fun c _ => Keeps.refl c) (fun _ _ _ _ => rfl) ?_
  · have := FrRel.mk_any (P := C.P) (sf' := { sf.setT o.dst x with cur := some { ar with rest := r, pend := i :: ar.pend } }) rfl (hA.soft hr ho (hP hA.ok))
    rw [show ({ sf.setT o.dst x with cur := some { ar with rest := r, pend := i :: ar.pend } } : SFr).f = sf.f from setT_f o.dst x,
      show ({ sf.setT o.dst x with cur := some { ar with rest := r, pend := i :: ar.pend } } : SFr).todo = sf.todo from setT_todo o.dst x] at this
    exact this
  · have := h.tops
    rw [resN_any hc] at this
    rw [resN_any (sf' := { sf.setT o.dst x with cur := some { ar with rest := r, pend := i :: ar.pend } }) rfl]; exact this

theorem self_agree (hok : RegOK ar.ops.toList) {i : Nat} {o : Oper} (ho : ar.ops[i]? = some o) (x : SV) : ∀ t ∈ readsOf ar.ops.toList o,
    (sf.setT o.dst x).tmps.getD t (.tp []) = sf.tmps.getD t (.tp []) ∧ (sf.setT o.dst x).gd.lookup t = sf.gd.lookup t :=
  fun t ht => setT_get fun e => hok.self i o t (by simpa using ho) e ht

theorem setT_self {d : Option Tmp} {x : SV} {t : Tmp} (hd : d = some t) (hl : t < (sf.setT d x).tmps.length) : (sf.setT d x).tmps.getD t (.tp []) = x := by
  subst hd
  rw [setT_len] at hl
  exact getD_set_eq hl

theorem hard_behind (hA : RegOK ar.ops.toList) (hp : ∃ pre, norder ar.ops.toList = pre ++ ar.rest) {i : Nat} {r : List Nat} (hr : ar.rest = i :: r) {o : Oper} (ho : ar.ops[i]? = some o) (hk : opKind o.op = 2) :
    ∀ e r', ar.rest = e :: r' → ∀ j ∈ r', Bf ar.ops.toList e j := by
  intro e r' he j hj
  rw [hr] at he
  simp only [List.cons.injEq] at he
  obtain ⟨rfl, rfl⟩ := he
  obtain ⟨pre, hp⟩ := hp
  exact hA.hard pre i r (by rw [hp, hr]) o (by simpa using ho) hk j hj

/-- What is ahead of the next one is done. -/
theorem Sim.commit (hc : sf.cur = some ar) {i : Nat} {r : List Nat} (hr : ar.rest = i :: r) {o : Oper} (ho : ar.ops[i]? = some o) (hk : opKind o.op = 2) :
    Sim C I ⟨sf :: cs, H⟩ ⟨{ sf with cur := some { ar with pend := ar.pend.filter (fun u => !((befores ar.ops.toList).getD i 0).testBit u), resv := ar.resv.filter (fun u => !((befores ar.ops.toList).getD i 0).testBit u.1) } } :: cs,
      livenAll H (ar.resv.filter fun u => ((befores ar.ops.toList).getD i 0).testBit u.1)⟩ := by
  intro ρ w fr inner h
  obtain ⟨_, _, _, _, hA0⟩ := h.any hc
  obtain ⟨ρ1, w1, tm1, L1, U1, hst, h1, hA, hh⟩ := h.reach hc (hard_behind hA0.ok (by obtain ⟨pre, hp, _⟩ := hA0.pre; exact ⟨pre, hp⟩) hr ho hk)
  rw [hr] at hh
  obtain ⟨L2, rfl⟩ : ∃ L2, L1 = i :: L2 := by
    cases L1 with
    | nil => simp at hh
    | cons x l => simp at hh; subst hh; exact ⟨l, rfl⟩
  have hnot : ∀ u, ((befores ar.ops.toList).getD i 0).testBit u = true → u ∉ U1 := fun u hb hu => hA.topo.head_bf hA.ok hA.closed hb ((hA.mem u).2 (.inr hu))
  obtain ⟨hH2, hload, hrow⟩ := livenAll_spec (P := C.P) (l := ar.resv.filter fun u => ((befores ar.ops.toList).getD i 0).testBit u.1) h1.holds
    (fun u n hu => by
      obtain ⟨hu1, hu2⟩ := List.mem_filter.1 hu
      exact (hA.rsv u n hu1).2.2 (hnot u hu2))
  have hnames := h1.own hc
  refine ⟨ρ1, w1, _, inner, hst, ?_⟩
  refine h1.turn (sf' := { sf with cur := some { ar with pend := ar.pend.filter (fun u => !((befores ar.ops.toList).getD i 0).testBit u), resv := ar.resv.filter (fun u => !((befores ar.ops.toList).getD i 0).testBit u.1) } })
    hH2 (Moves.refl ρ1 w1) ?_ rfl (fun c hcm => ⟨fun _ _ _ _ _ _ _ _ _ _ _ _ _ hl => hload _ _ _ _ hl, fun n hn ks T hl => hrow n _ (fun u hu => ?_) hl⟩) (fun _ _ _ _ => rfl) ?_
  · refine FrRel.mk_any (sf' := { sf with cur := some { ar with pend := ar.pend.filter (fun u => !((befores ar.ops.toList).getD i 0).testBit u), resv := ar.resv.filter (fun u => !((befores ar.ops.toList).getD i 0).testBit u.1) } }) (ar' := { ar with pend := ar.pend.filter (fun u => !((befores ar.ops.toList).getD i 0).testBit u), resv := ar.resv.filter (fun u => !((befores ar.ops.toList).getD i 0).testBit u.1) }) (U := U1) rfl
      ⟨hA.ok, ?_, hA.nodup, hA.mem, fun u hu => ?_, hA.topo, hA.closed, hA.tms, hA.gds, fun u hu => ?_, fun u n hu => ?_⟩
    · obtain ⟨pre, hp, hs⟩ := hA.pre
      refine ⟨pre, hp, fun u hu => hs u ?_⟩
      rcases hu with hu | ⟨n, hu⟩
      · exact .inl (List.mem_filter.1 hu).1
      · exact .inr ⟨n, (List.mem_filter.1 hu).1⟩
    · have hb : ((befores ar.ops.toList).getD i 0).testBit u = false := by
        cases hb : ((befores ar.ops.toList).getD i 0).testBit u with
        | false => rfl
        | true => exact absurd hu (hnot u hb)
      rcases hA.sub u hu with hs | ⟨n, hs⟩
      · exact .inl (List.mem_filter.2 ⟨hs, by rw [hb]; rfl⟩)
      · exact .inr ⟨n, List.mem_filter.2 ⟨hs, by rw [hb]; rfl⟩⟩
    · obtain ⟨q, hq, hcase⟩ := hA.pnd u (List.mem_filter.1 hu).1
      refine ⟨q, hq, ?_⟩
      rcases hcase with hcase | ⟨c1, c2, y, c3, c4⟩
      · exact .inl hcase
      · exact .inr ⟨c1, c2, y, sopG_heap0 c2 (fun t a n off x _ _ hl => hload _ _ _ _ hl) c3, c4⟩
    · obtain ⟨hu1, hu2⟩ := List.mem_filter.1 hu
      obtain ⟨⟨q, d, nk, ks, T, k1, k2, k3, k4, k5, k6, k7, k8⟩, h2, h3⟩ := hA.rsv u n hu1
      refine ⟨⟨q, d, nk, ks, T, k1, k2, k3, k4, k5, by rw [← sopG_heap1 (H := H) k5]; exact k6, k7, hrow n _ (fun v hv => ?_) k8⟩, h2, h3⟩
      obtain ⟨hv1, hv2⟩ := List.mem_filter.1 hv
      have huv : u = v := by
        have : ∀ {l : List (Nat × Nat)}, (l.map fun x => x.2).Nodup → ∀ {a b c : Nat}, (a, c) ∈ l → (b, c) ∈ l → a = b := by
          intro l
          induction l with
          | nil => intro _ a b c h; cases h
          | cons q r ih =>
            intro hnd a b c ha hb
            simp only [List.map_cons, List.nodup_cons] at hnd
            rcases List.mem_cons.1 ha with rfl | ha' <;> rcases List.mem_cons.1 hb with hb' | hb'
            · cases hb'; rfl
            · exact absurd (List.mem_map.2 ⟨_, hb', rfl⟩) hnd.1
            · subst hb'; exact absurd (List.mem_map.2 ⟨_, ha', rfl⟩) hnd.1
            · exact ih hnd.2 ha' hb'
        exact this hnames hu1 hv1
      subst huv
      simp only at hu2 hv2
      rw [hv2] at hu2; cases hu2
  · have hna := h1.callers_apart hc hcm hn
    exact hna (List.mem_map.2 ⟨(u, n), (List.mem_filter.1 hu).1, rfl⟩)
  · have := h1.tops
    rw [resN_any hc] at this
    rw [resN_any (sf' := { sf with cur := some { ar with pend := ar.pend.filter (fun u => !((befores ar.ops.toList).getD i 0).testBit u), resv := ar.resv.filter (fun u => !((befores ar.ops.toList).getD i 0).testBit u.1) } }) rfl]
    refine List.Nodup.sublist ?_ this
    exact List.Sublist.append (List.Sublist.map _ List.filter_sublist) (List.Sublist.refl _)

end
end Go.Rl
