/-
  What the symbolic machine says is what the machine does (4): the machine comes to where our order is.
-/
import Derived.Test.YtghmpcnchjjikaaGreatRlSp3
set_option linter.all false
set_option linter.unusedVariables false
set_option linter.unusedSimpArgs false
set_option linter.unnecessarySimpa false
namespace Go.Rl
open Go

section
variable {P : Program} {ρ : Rho} {H : List SO} {w : World} {sf : SFr} {ar : AnyR} {U L : List Nat} {tm : Array Value}

theorem AnyRel.apart (h : AnyRel P ρ H sf ar L U tm) {u : Nat} (hu : u ∈ U) : u ∉ ar.rest := by
  obtain ⟨pre, hp, hs⟩ := h.pre
  have hn := h.ok.nodup
  rw [hp] at hn
  have := List.nodup_append.1 hn
  intro hr
  exact this.2.2 u (hs u (h.sub u hu)) u hr rfl

theorem asgB_spec {o : Oper} (h : asgB o = true) : opKind o.op = 2 ∧ ∀ (ops : Array Oper) (tm : List SV) (gd : List (Tmp × Bool)), wantedS ops tm gd o = .yes := by
  unfold asgB at h
  split at h
  · rename_i x hx hg
    exact ⟨by rw [hx]; rfl, fun ops tm gd => by unfold wantedS; rw [hg]⟩
  · cases h

theorem PendF.noAsg {u : Nat} (h : PendF P H sf ar.ops u) {q : Oper} (hq : ar.ops[u]? = some q) : asgB q = false := by
  cases hb : asgB q with
  | false => rfl
  | true =>
    obtain ⟨h1, h2⟩ := asgB_spec hb
    obtain ⟨o, ho, h⟩ := h
    rw [hq] at ho; cases ho
    rcases h with ⟨h3, _⟩ | ⟨_, h3, _⟩
    · rw [h2] at h3; cases h3
    · rw [h1] at h3; cases h3

theorem RsvOK.noAsg {u n : Nat} (h : RsvOK P H sf ar.ops u n) {q : Oper} (hq : ar.ops[u]? = some q) : asgB q = false := by
  cases hb : asgB q with
  | false => rfl
  | true =>
    obtain ⟨h1, h2⟩ := asgB_spec hb
    obtain ⟨o, d, nk, ks, T, ho, _, _, _, h5, _⟩ := h
    rw [hq] at ho; cases ho
    rw [h1] at h5; cases h5

theorem AnyRel.reads {i : Nat} (h : AnyRel P ρ H sf ar (i :: L) U tm) {o : Oper} (ho : ar.ops[i]? = some o) {t : Tmp} (ht : t ∈ readsOf ar.ops.toList o) :
    ¬ ∃ u ∈ U, ∃ x, ar.ops[u]? = some x ∧ x.dst = some t := by
  rintro ⟨u, hu, x, hx, hd⟩
  have ho' : ar.ops.toList[i]? = some o := by simpa using ho
  have hx' : ar.ops.toList[u]? = some x := by simpa using hx
  by_cases hui : u = i
  · subst hui
    rw [ho'] at hx'; cases hx'
    exact h.ok.self u o t ho' hd ht
  · rcases (h.ok.dst u i x o t hui hx' ho' hd).2 ht with hb | ⟨hb, _⟩
    · exact h.topo.head_bf h.ok h.closed hb ((h.mem u).2 (.inr hu))
    · have : asgB x = false := by
        rcases h.sub u hu with hs | ⟨n, hs⟩
        · exact (h.pnd u hs).noAsg hx
        · exact (h.rsv u n hs).1.noAsg hx
      rw [this] at hb; cases hb

theorem putA_rel {skip skip' : Tmp → Prop} {sm : List SV} {d : Option Tmp} {v : Value} (h : TmRel ρ skip sm tm)
    (hd : ∀ t, d = some t → t < sm.length → (sm.getD t (.tp [])).den ρ = some v) (hs : ∀ u, ¬ skip' u → d ≠ some u → ¬ skip u) : TmRel ρ skip' sm (putA tm d v) := by
  refine ⟨by cases d <;> simp [putA, h.size], fun u hu => ?_⟩
  by_cases hdu : d = some u
  · subst hdu
    simp only [putA]
    by_cases hlt : u < sm.length
    · rw [hd u rfl hlt]
      have : u < tm.size := by rw [h.size]; exact hlt
      simp [Array.getD_eq_getD_getElem?, this]
    · have h2 : ¬ u < tm.size := by rw [h.size]; exact hlt
      simp [List.getD, List.getElem?_eq_none (Nat.le_of_not_lt hlt), Array.getD, h2, SV.den, SV.denL, undef]
  · rw [h.den u (hs u hu hdu)]
    cases d with
    | none => rfl
    | some t =>
      have : t ≠ u := fun e => hdu (by rw [e])
      simp [putA, Array.getD_eq_getD_getElem?, Array.getElem?_setIfInBounds_ne this]

/-- The list behind its head, when the head was one that was pending. -/
theorem AnyRel.behind {ρ' : Rho} {tm' : Array Value} {u : Nat} (h : AnyRel P ρ H sf ar (u :: L) U tm) (hu : u ∈ U)
    (ht : TmRel ρ' (fun t => ∃ x ∈ U.filter (· ≠ u), ∃ o, ar.ops[x]? = some o ∧ o.dst = some t) sf.tmps tm')
    (hr : ∀ x n, (x, n) ∈ ar.resv → (x ∈ U.filter (· ≠ u) → ρ' n = none) ∧ (x ∉ U.filter (· ≠ u) → ∃ b, ρ' n = some b)) :
    AnyRel P ρ' H sf ar L (U.filter (· ≠ u)) tm' where
  ok := h.ok
  pre := h.pre
  nodup := (List.nodup_cons.1 h.nodup).2
  mem := fun i => by
    have hm := h.mem i
    have hnd := (List.nodup_cons.1 h.nodup).1
    simp only [List.mem_cons, List.mem_filter, decide_not, Bool.not_eq_true', decide_eq_false_iff_not] at hm ⊢
    constructor
    · intro hi
      have hne : i ≠ u := fun e => hnd (e ▸ hi)
      rcases hm.1 (.inr hi) with h1 | h1
      · exact .inl h1
      · exact .inr ⟨h1, by simpa using hne⟩
    · rintro (h1 | ⟨h1, h2⟩)
      · rcases hm.2 (.inl h1) with h3 | h3
        · subst h3; exact absurd h1 (h.apart hu)
        · exact h3
      · rcases hm.2 (.inr h1) with h3 | h3
        · exact absurd h3 (by simpa using h2)
        · exact h3
  sub := fun x hx => h.sub x (List.mem_filter.1 hx).1
  topo := h.topo.2
  closed := h.closed.tail h.topo
  tms := ht
  gds := h.gds
  pnd := h.pnd
  rsv := fun x n hx => ⟨(h.rsv x n hx).1, hr x n hx⟩

theorem sv_inj {nk nk' : NewK} {n m : Nat} (h : nk.sv n = nk'.sv m) : n = m := by
  cases nk <;> cases nk' <;> simp [NewK.sv] at h <;> first | exact h | exact h.1

theorem RsvOK.name {u n m : Nat} (h : RsvOK P H sf ar.ops u n) (k : RsvOK P H sf ar.ops u m) : n = m := by
  obtain ⟨o, d, nk, ks, T, h1, h2, h3, h4, h5, h6, h7, h8⟩ := h
  obtain ⟨o', d', nk', ks', T', k1, k2, k3, k4, k5, k6, k7, k8⟩ := k
  rw [h1] at k1; cases k1
  rw [h2] at k2; cases k2
  rw [h7] at k7
  exact sv_inj k7

theorem AnyRel.exec {u : Nat} (hH : Holds ρ H w) (hnn : (ar.resv.map fun x => x.2).Nodup) (h : AnyRel P ρ H sf ar (u :: L) U tm) (hu : u ∈ U) :
    ∃ ρ' w' tm', (∀ cs, step P (lone (mkF sf.f tm (.inRegion ar.ops (u :: L) :: sf.todo)) cs w) = .next (lone (mkF sf.f tm' (.inRegion ar.ops L :: sf.todo)) cs w')) ∧
      Holds ρ' H w' ∧ Moves ρ ρ' w w' ∧ AnyRel P ρ' H sf ar L (U.filter (· ≠ u)) tm' ∧ (∀ n, n ∉ (ar.resv.map fun x => x.2) → ρ' n = ρ n) := by
  have hskip : ∀ {o : Oper} {d : Option Tmp}, ar.ops[u]? = some o → o.dst = d → ∀ t, (¬ ∃ x ∈ U.filter (· ≠ u), ∃ q, ar.ops[x]? = some q ∧ q.dst = some t) → d ≠ some t →
      ¬ ∃ x ∈ U, ∃ q, ar.ops[x]? = some q ∧ q.dst = some t := by
    rintro o d ho hd t hn hdt ⟨x, hx, q, hq, hqd⟩
    by_cases hxu : x = u
    · subst hxu; rw [ho] at hq; cases hq; exact hdt (by rw [← hd, hqd])
    · exact hn ⟨x, by simp [hx, hxu], q, hq, hqd⟩
  have hop : ∀ {o : Oper}, ar.ops[u]? = some o → ∀ t, (Operand.tmp t) ∈ o.op.operands → ¬ ∃ x ∈ U, ∃ q, ar.ops[x]? = some q ∧ q.dst = some t :=
    fun ho t ht => h.reads ho (mem_reads ht rfl)
  have hguard : ∀ {o : Oper}, ar.ops[u]? = some o → ∀ j want t x, o.guard = some (j, want) → ar.ops[j]? = some x → x.dst = some t → ¬ ∃ x ∈ U, ∃ q, ar.ops[x]? = some q ∧ q.dst = some t :=
    fun ho j want t x h1 h2 h3 => h.reads ho (guard_reads h1 h2 h3)
  by_cases hup : u ∈ ar.pend
  · obtain ⟨o, ho, hcase⟩ := h.pnd u hup
    obtain ⟨hw1, hw2⟩ := wantedS_spec h.tms h.gds (ops := ar.ops) (o := o) (hguard ho)
    have hres : ∀ x n, (x, n) ∈ ar.resv → (x ∈ U.filter (· ≠ u) → ρ n = none) ∧ (x ∉ U.filter (· ≠ u) → ∃ b, ρ n = some b) := by
      intro x n hx
      obtain ⟨h1, h2, h3⟩ := h.rsv x n hx
      refine ⟨fun hm => h2 (List.mem_filter.1 hm).1, fun hm => ?_⟩
      by_cases hxu : x = u
      · -- u is no float then
        exfalso
        subst hxu
        obtain ⟨o', d, nk, ks, T, k1, k2, k3, k4, k5, k6, k7, k8⟩ := h1
        rw [ho] at k1; cases k1
        rcases hcase with ⟨c1, _⟩ | ⟨_, c2, _⟩
        · rw [k4] at c1; cases c1
        · rw [k5] at c2; cases c2
      · exact h3 fun hm2 => hm (by simp [hm2, hxu])
    rcases hcase with ⟨c1, c2⟩ | ⟨c1, c2, y, c3, c4⟩
    · refine ⟨ρ, w, putA tm o.dst undef, fun cs => ?_, hH, Moves.refl ρ w, h.behind hu (putA_rel h.tms (fun t ht hl => by rw [c2 t ht hl]; rfl) (hskip ho rfl)) hres, fun _ _ => rfl⟩
      have := step_op_unwanted (P := P) (f := sf.f) (tm := tm) (k := sf.todo) (cs := cs) (w := w) (ops := ar.ops) (i := u) (rest := L) (by simp [ho, hw2 c1])
      simpa [ho] using this
    · have hs := sopG_sound hH h.tms h.gds o (P := P) (hop ho)
      obtain ⟨v, hrun, hd⟩ := hs.isVal c3
      exact ⟨ρ, w, putA tm o.dst v, fun cs => step_op_value ho (hw1 c1) hrun, hH, Moves.refl ρ w,
        h.behind hu (putA_rel h.tms (fun t ht hl => by rw [c4 t ht hl]; exact hd) (hskip ho rfl)) hres, fun _ _ => rfl⟩
  · rcases h.sub u hu with hp | ⟨n, hn⟩
    · exact absurd hp hup
    obtain ⟨hR, hn0, _⟩ := h.rsv u n hn
    have hRk := hR
    obtain ⟨o, d, nk, ks, T, k1, k2, k3, k4, k5, k6, k7, k8⟩ := hR
    obtain ⟨hw1, _⟩ := wantedS_spec h.tms h.gds (ops := ar.ops) (o := o) (hguard k1)
    have hs := sopG_sound hH h.tms h.gds o (P := P) (hop k1)
    rw [k6] at hs
    obtain ⟨vs, hvs, hrun⟩ := hs
    have hnone := hn0 hu
    have hself : (ρ.put n w.heap.size) n = some w.heap.size := by simp [Rho.put]
    have hput : ∀ m, m ≠ n → (ρ.put n w.heap.size) m = ρ m := fun m hm => by simp [Rho.put, hm]
    refine ⟨ρ.put n w.heap.size, _, putA tm o.dst (nk.val w.heap.size), fun cs => step_op_value k1 (hw1 k4) (hrun w), hH.realize k8 hnone hvs, Moves.realize hnone _,
      h.behind hu (putA_rel (h.tms.mono (Rho.le_put hnone)) (fun t ht hl => ?_) (hskip k1 rfl)) (fun x m hx => ?_), fun m hm => hput m fun e => hm ?_⟩
    · rw [k2] at ht; cases ht
      rw [k7]; exact NewK.den hself
    · obtain ⟨h1, h2, h3⟩ := h.rsv x m hx
      by_cases hxu : x = u
      · subst hxu
        have : m = n := RsvOK.name h1 hRk
        subst this
        exact ⟨fun hm => by have := (List.mem_filter.1 hm).2; simp at this, fun _ => ⟨_, hself⟩⟩
      · have hmn : m ≠ n := by
          intro e; subst e
          -- two of one name
          have : ∀ {l : List (Nat × Nat)}, (l.map fun x => x.2).Nodup → ∀ {a b c : Nat}, (a, c) ∈ l → (b, c) ∈ l → a = b := by
            intro l
            induction l with
            | nil => intro _ a b c h; cases h
            | cons q r ih =>
              intro hnd a b c ha hb
              simp only [List.map_cons, List.nodup_cons] at hnd
              rcases List.mem_cons.1 ha with rfl | ha' <;> rcases List.mem_cons.1 hb with hb' | hb'
              · cases hb'; rfl
              · exact absurd (List.mem_map.2 ⟨_, hb', rfl⟩) hnd.1
              · subst hb'; exact absurd (List.mem_map.2 ⟨_, ha', rfl⟩) hnd.1
              · exact ih hnd.2 ha' hb'
          exact hxu (this hnn hx hn)
        rw [hput m hmn]
        exact ⟨fun hm => h2 (List.mem_filter.1 hm).1, fun hm => h3 fun hm2 => hm (by simp [hm2, hxu])⟩
    · subst e; exact List.mem_map.2 ⟨_, hn, rfl⟩

/-- Many steps, under any callers. -/
def StepsC (P : Program) (fr : Frame) (inner : List Frame) (w : World) (fr' : Frame) (inner' : List Frame) (w' : World) : Prop :=
  ∀ cs, Steps P (lone fr (inner ++ cs) w) (lone fr' (inner' ++ cs) w')

/-- The machine goes on till what comes next is what comes next here. -/
theorem AnyRel.reach : ∀ (n : Nat) {ρ : Rho} {w : World} {tm : Array Value} {L U : List Nat}, L.length ≤ n → Holds ρ H w → (ar.resv.map fun x => x.2).Nodup → AnyRel P ρ H sf ar L U tm →
    (∀ e r, ar.rest = e :: r → ∀ j ∈ r, Bf ar.ops.toList e j) →
    ∃ ρ' w' tm' L' U', (∀ inner, StepsC P (mkF sf.f tm (.inRegion ar.ops L :: sf.todo)) inner w (mkF sf.f tm' (.inRegion ar.ops L' :: sf.todo)) inner w') ∧
      Holds ρ' H w' ∧ Moves ρ ρ' w w' ∧ AnyRel P ρ' H sf ar L' U' tm' ∧ (∀ n, n ∉ (ar.resv.map fun x => x.2) → ρ' n = ρ n) ∧ L'.head? = ar.rest.head? := by
  intro n
  induction n with
  | zero =>
    intro ρ w tm L U hl hH hnn h hr
    have hL : L = [] := List.length_eq_zero_iff.1 (Nat.le_zero.1 hl)
    subst hL
    have hrest : ar.rest = [] := by
      cases hc : ar.rest with
      | nil => rfl
      | cons e r => exact absurd ((h.mem e).2 (.inl (by rw [hc]; simp))) (by simp)
    exact ⟨ρ, w, tm, [], U, fun _ _ => Steps.refl _ _, hH, Moves.refl ρ w, h, fun _ _ => rfl, by rw [hrest]⟩
  | succ n ih =>
    intro ρ w tm L U hl hH hnn h hr
    cases L with
    | nil =>
      have hrest : ar.rest = [] := by
        cases hc : ar.rest with
        | nil => rfl
        | cons e r => exact absurd ((h.mem e).2 (.inl (by rw [hc]; simp))) (by simp)
      exact ⟨ρ, w, tm, [], U, fun _ _ => Steps.refl _ _, hH, Moves.refl ρ w, h, fun _ _ => rfl, by rw [hrest]⟩
    | cons x L =>
      by_cases hx : some x = ar.rest.head?
      · exact ⟨ρ, w, tm, x :: L, U, fun _ _ => Steps.refl _ _, hH, Moves.refl ρ w, h, fun _ _ => rfl, by rw [← hx]; rfl⟩
      · have hxU : x ∈ U := by
          rcases (h.mem x).1 (by simp) with hxr | hxU
          · exfalso
            cases hc : ar.rest with
            | nil => rw [hc] at hxr; cases hxr
            | cons e r =>
              rw [hc] at hxr hx
              rcases List.mem_cons.1 hxr with rfl | hxr
              · exact hx rfl
              · have hb := hr e r hc x hxr
                exact h.topo.head_bf h.ok h.closed hb ((h.mem e).2 (.inl (by rw [hc]; simp)))
          · exact hxU
        obtain ⟨ρ1, w1, tm1, hst, hH1, hm1, h1, hn1⟩ := h.exec hH hnn hxU
        obtain ⟨ρ2, w2, tm2, L2, U2, hst2, hH2, hm2, h2, hn2, hh⟩ := ih (by simpa using hl) hH1 hnn h1 hr
        exact ⟨ρ2, w2, tm2, L2, U2, fun inner cs => .head (hst (inner ++ cs)) (hst2 inner cs), hH2, hm1.trans hm2, h2, fun m hm => by rw [hn2 m hm, hn1 m hm], hh⟩

end
end Go.Rl
