/-
  What the symbolic machine says is what the machine does (7): regions that draw, once more: one operation on.
-/
import Derived.Test.YtghmpcnchjjikaaGreatRlSp6
set_option linter.all false
set_option linter.unusedVariables false
set_option linter.unusedSimpArgs false
set_option linter.unnecessarySimpa false
namespace Go.Rl
open Go

section
variable {P : Program} {ρ : Rho} {H : List SO} {w : World} {sf : SFr} {ar : AnyR} {U L : List Nat} {tm : Array Value}

/-- What is gone through later is not read by what was gone through. -/
theorem AnyRel.later (h : AnyRel P ρ H sf ar L U tm) {i : Nat} {r : List Nat} (hr : ar.rest = i :: r) {o : Oper} (ho : ar.ops[i]? = some o) {u : Nat} (hu : u ∈ ar.pend ∨ ∃ n, (u, n) ∈ ar.resv)
    {q : Oper} (hq : ar.ops[u]? = some q) {d : Tmp} (hd : o.dst = some d) (hna : asgB o = false ∨ ∀ u, (u ∈ ar.pend ∨ ∃ n, (u, n) ∈ ar.resv) → ¬ Bf ar.ops.toList u i) : q.dst ≠ some d ∧ d ∉ readsOf ar.ops.toList q := by
  obtain ⟨pre, hp, hs⟩ := h.pre
  have hup := hs u hu
  have hn := h.ok.nodup
  rw [hp, hr] at hn
  have hiu : i ≠ u := by
    intro e; subst e
    exact (List.nodup_append.1 hn).2.2 i hup i (by simp) rfl
  have ho' : ar.ops.toList[i]? = some o := by simpa using ho
  have hq' : ar.ops.toList[u]? = some q := by simpa using hq
  obtain ⟨h1, h2⟩ := h.ok.dst i u o q d hiu ho' hq' hd
  refine ⟨h1, fun hm => ?_⟩
  obtain ⟨p1, p2, he⟩ := List.append_of_mem hup
  rcases h2 hm with hb | ⟨hb, hb2⟩
  · exact h.ok.topo p1 u (p2 ++ (i :: r)) (by rw [hp, hr, he]; simp) i (.inr (by simp)) hb
  · rcases hna with hna | hna
    · rw [hna] at hb; cases hb
    · exact hna u hu hb2

theorem PendF.setT {o : Oper} {x : SV} {u : Nat} (h : PendF P H sf ar.ops u) (hl : ∀ q d, ar.ops[u]? = some q → o.dst = some d → q.dst ≠ some d ∧ d ∉ readsOf ar.ops.toList q) :
    PendF P H (sf.setT o.dst x) ar.ops u := by
  obtain ⟨q, hq, h⟩ := h
  have hag : ∀ t ∈ readsOf ar.ops.toList q, (sf.setT o.dst x).tmps.getD t (.tp []) = sf.tmps.getD t (.tp []) ∧ (sf.setT o.dst x).gd.lookup t = sf.gd.lookup t := by
    intro t ht
    exact setT_get fun e => (hl q t hq e).2 ht
  have hw : wantedS ar.ops (sf.setT o.dst x).tmps (sf.setT o.dst x).gd q = wantedS ar.ops sf.tmps sf.gd q := wantedS_congr q hag
  have hso : sopG P H (sf.setT o.dst x).tmps (sf.setT o.dst x).gd q = sopG P H sf.tmps sf.gd q := sopG_congr (ops := ar.ops.toList) q hag
  have hget : ∀ d, q.dst = some d → (sf.setT o.dst x).tmps.getD d (.tp []) = sf.tmps.getD d (.tp []) := fun d hd => (setT_get fun e => (hl q d hq e).1 hd).1
  refine ⟨q, hq, ?_⟩
  rw [hw, hso, setT_len]
  rcases h with ⟨h1, h2⟩ | ⟨h1, h2, y, h3, h4⟩
  · exact .inl ⟨h1, fun d hd hlt => by rw [hget d hd]; exact h2 d hd hlt⟩
  · exact .inr ⟨h1, h2, y, h3, fun d hd hlt => by rw [hget d hd]; exact h4 d hd hlt⟩

theorem RsvOK.setT {o : Oper} {x : SV} {u n : Nat} (h : RsvOK P H sf ar.ops u n) (hl : ∀ q d, ar.ops[u]? = some q → o.dst = some d → q.dst ≠ some d ∧ d ∉ readsOf ar.ops.toList q) :
    RsvOK P H (sf.setT o.dst x) ar.ops u n := by
  obtain ⟨q, d, nk, ks, T, h1, h2, h3, h4, h5, h6, h7, h8⟩ := h
  have hag : ∀ t ∈ readsOf ar.ops.toList q, (sf.setT o.dst x).tmps.getD t (.tp []) = sf.tmps.getD t (.tp []) ∧ (sf.setT o.dst x).gd.lookup t = sf.gd.lookup t := by
    intro t ht
    exact setT_get fun e => (hl q t h1 e).2 ht
  refine ⟨q, d, nk, ks, T, h1, h2, by rw [setT_len]; exact h3, by rw [wantedS_congr q hag]; exact h4, h5, by rw [sopG_congr (ops := ar.ops.toList) q hag]; exact h6, ?_, h8⟩
  rw [(setT_get fun e => (hl q d h1 e).1 h2).1]; exact h7

theorem AnyRel.lookL (h : AnyRel P ρ H sf ar L U tm) {i : Nat} {r : List Nat} (hr : ar.rest = i :: r) {o : Oper} (ho : ar.ops[i]? = some o) (hna : asgB o = false ∨ ∀ u, (u ∈ ar.pend ∨ ∃ n, (u, n) ∈ ar.resv) → ¬ Bf ar.ops.toList u i) :
    ∀ u, (u ∈ ar.pend ∨ ∃ n, (u, n) ∈ ar.resv) → ∀ q d, ar.ops[u]? = some q → o.dst = some d → q.dst ≠ some d ∧ d ∉ readsOf ar.ops.toList q :=
  fun _ hu _ _ hq hd => h.later hr ho hu hq hd hna

/-- The operation in hand is done, there too. -/
theorem AnyRel.done {i : Nat} {r : List Nat} (h : AnyRel P ρ H sf ar (i :: L) U tm) (hr : ar.rest = i :: r) {o : Oper} (ho : ar.ops[i]? = some o) {x : SV} {v : Value} (hd : x.den ρ = some v) (hna : asgB o = false ∨ ∀ u, (u ∈ ar.pend ∨ ∃ n, (u, n) ∈ ar.resv) → ¬ Bf ar.ops.toList u i) :
    AnyRel P ρ H { sf.setT o.dst x with cur := some { ar with rest := r } } { ar with rest := r } L U (putA tm o.dst v) := by
  have hiU : i ∉ U := fun hu => h.apart hu (by rw [hr]; simp)
  have hnd := List.nodup_cons.1 h.nodup
  have hlook := h.lookL hr ho hna
  obtain ⟨pre, hp, hs⟩ := h.pre
  refine ⟨h.ok, ⟨pre ++ [i], by rw [hp, hr]; simp, fun u hu => by simp [hs u hu]⟩, hnd.2, fun j => ?_, h.sub, h.topo.2, h.closed.tail h.topo, ?_, setT_gd h.gds _ _, fun u hu => ?_, fun u n hu => ?_⟩
  · have hm := h.mem j
    rw [hr] at hm
    simp only [List.mem_cons] at hm
    constructor
    · intro hj
      have hne : j ≠ i := fun e => hnd.1 (e ▸ hj)
      rcases hm.1 (.inr hj) with (h1 | h1) | h1
      · exact absurd h1 hne
      · exact .inl h1
      · exact .inr h1
    · rintro (h1 | h1)
      · rcases hm.2 (.inl (.inr h1)) with h3 | h3
        · subst h3
          have hn := h.ok.nodup
          rw [hp, hr] at hn
          exact absurd h1 (List.nodup_cons.1 (List.nodup_append.1 hn).2.1).1
        · exact h3
      · rcases hm.2 (.inr h1) with h3 | h3
        · exact absurd h1 (h3 ▸ hiU)
        · exact h3
  · exact setT_rel h.tms hd fun _ hu _ => hu
  · exact (h.pnd u hu).setT (ar := ar) (hlook u (.inl hu))
  · obtain ⟨h1, h2, h3⟩ := h.rsv u n hu
    exact ⟨h1.setT (ar := ar) (hlook u (.inr ⟨n, hu⟩)), h2, h3⟩

/-- The operation in hand was gone through here; there perhaps not yet. -/
theorem AnyRel.soft {i : Nat} {r : List Nat} (h : AnyRel P ρ H sf ar L U tm) (hr : ar.rest = i :: r) {o : Oper} (ho : ar.ops[i]? = some o) {x : SV}
    (hP : PendF P H (sf.setT o.dst x) ar.ops i) :
    AnyRel P ρ H { sf.setT o.dst x with cur := some { ar with rest := r, pend := i :: ar.pend } } { ar with rest := r, pend := i :: ar.pend } L (i :: U) tm := by
  have hlook := h.lookL hr ho (.inl (hP.noAsg ho))
  obtain ⟨pre, hp, hs⟩ := h.pre
  have hiR : ∀ n, (i, n) ∉ ar.resv := fun n hn => by
    have hn' := h.ok.nodup
    rw [hp, hr] at hn'
    exact (List.nodup_append.1 hn').2.2 i (hs i (.inr ⟨n, hn⟩)) i (by simp) rfl
  refine ⟨h.ok, ⟨pre ++ [i], by rw [hp, hr]; simp, fun u hu => ?_⟩, h.nodup, fun j => ?_, fun u hu => ?_, h.topo, h.closed, ?_, setT_gd h.gds _ _, fun u hu => ?_, fun u n hu => ?_⟩
  · rcases hu with hu | hu
    · rcases List.mem_cons.1 hu with rfl | hu
      · simp
      · simp [hs u (.inl hu)]
    · simp [hs u (.inr hu)]
  · rw [h.mem j, hr]; simp only [List.mem_cons]
    constructor
    · rintro ((h1 | h1) | h1)
      · exact .inr (.inl h1)
      · exact .inl h1
      · exact .inr (.inr h1)
    · rintro (h1 | h1 | h1)
      · exact .inl (.inr h1)
      · exact .inl (.inl h1)
      · exact .inr h1
  · rcases List.mem_cons.1 hu with rfl | hu
    · exact .inl (by simp)
    · rcases h.sub u hu with h1 | h1
      · exact .inl (by simp [h1])
      · exact .inr h1
  · refine ⟨by rw [show ({ sf.setT o.dst x with cur := some { ar with rest := r, pend := i :: ar.pend } } : SFr).tmps = (sf.setT o.dst x).tmps from rfl, setT_len]; exact h.tms.size, fun t ht => ?_⟩
    have hne : o.dst ≠ some t := fun e => ht ⟨i, by simp, o, ho, e⟩
    have e := (setT_get (sf := sf) (x := x) hne).1
    show ((sf.setT o.dst x).tmps.getD t (.tp [])).den ρ = _
    rw [e]
    refine h.tms.den t ?_
    rintro ⟨u, hu, q, hq, hqd⟩
    exact ht ⟨u, by simp [hu], q, hq, hqd⟩
  · rcases List.mem_cons.1 hu with rfl | hu
    · exact hP
    · exact (h.pnd u hu).setT (ar := ar) (hlook u (.inl hu))
  · obtain ⟨h1, h2, h3⟩ := h.rsv u n hu
    refine ⟨h1.setT (ar := ar) (hlook u (.inr ⟨n, hu⟩)), fun hm => ?_, fun hm => h3 fun hm2 => hm (by simp [hm2])⟩
    rcases List.mem_cons.1 hm with rfl | hm
    · exact absurd hu (hiR n)
    · exact h2 hm

/-- A new block got a name here; there it is perhaps not yet. -/
theorem AnyRel.softNew {i d : Nat} {r : List Nat} (hH : Holds ρ H w) (h : AnyRel P ρ H sf ar L U tm) (hr : ar.rest = i :: r) {o : Oper} (ho : ar.ops[i]? = some o) (hd : o.dst = some d) (hdl : d < sf.tmps.length)
    {nk : NewK} {ks : List SV} {T : TypeId} (hw : wantedS ar.ops sf.tmps sf.gd o = .yes) (hk : opKind o.op = 1) (hs : sopG P H sf.tmps sf.gd o = .new nk ks T) :
    AnyRel P ρ (H ++ [.row false ks [] T]) { sf.setT (some d) (nk.sv H.length) with cur := some { ar with rest := r, resv := (i, H.length) :: ar.resv } } { ar with rest := r, resv := (i, H.length) :: ar.resv } L (i :: U) tm := by
  have hlook := h.lookL hr ho (.inl (by
    cases hb : asgB o with
    | false => rfl
    | true => have := (asgB_spec hb).1; rw [hk] at this; cases this))
  rw [hd] at hlook
  obtain ⟨pre, hp, hs'⟩ := h.pre
  have hkeep : ∀ n o', H[n]? = some o' → (H ++ [SO.row false ks [] T])[n]? = some o' := fun n o' hn => by rw [List.getElem?_append_left (List.getElem?_eq_some_iff.1 hn).1]; exact hn
  have hself : ∀ t ∈ readsOf ar.ops.toList o, (sf.setT (some d) (nk.sv H.length)).tmps.getD t (.tp []) = sf.tmps.getD t (.tp []) ∧ (sf.setT (some d) (nk.sv H.length)).gd.lookup t = sf.gd.lookup t := by
    intro t ht
    refine setT_get fun e => ?_
    cases e
    exact h.ok.self i o d (by simpa using ho) hd ht
  have hiP : i ∉ ar.pend ∧ ∀ n, (i, n) ∉ ar.resv := by
    have hn' := h.ok.nodup
    rw [hp, hr] at hn'
    exact ⟨fun hn => (List.nodup_append.1 hn').2.2 i (hs' i (.inl hn)) i (by simp) rfl, fun n hn => (List.nodup_append.1 hn').2.2 i (hs' i (.inr ⟨n, hn⟩)) i (by simp) rfl⟩
  have hiU : i ∉ U := fun hu => h.apart hu (by rw [hr]; simp)
  refine ⟨h.ok, ⟨pre ++ [i], by rw [hp, hr]; simp, fun u hu => ?_⟩, h.nodup, fun j => ?_, fun u hu => ?_, h.topo, h.closed, ?_, setT_gd h.gds _ _, fun u hu => ?_, fun u n hu => ?_⟩
  · rcases hu with hu | ⟨n, hu⟩
    · simp [hs' u (.inl hu)]
    · rcases List.mem_cons.1 hu with e | hu
      · cases e; simp
      · simp [hs' u (.inr ⟨n, hu⟩)]
  · rw [h.mem j, hr]; simp only [List.mem_cons]
    constructor
    · rintro ((h1 | h1) | h1)
      · exact .inr (.inl h1)
      · exact .inl h1
      · exact .inr (.inr h1)
    · rintro (h1 | h1 | h1)
      · exact .inl (.inr h1)
      · exact .inl (.inl h1)
      · exact .inr h1
  · rcases List.mem_cons.1 hu with rfl | hu
    · exact .inr ⟨H.length, by simp⟩
    · rcases h.sub u hu with h1 | ⟨n, h1⟩
      · exact .inl h1
      · exact .inr ⟨n, by simp [h1]⟩
  · refine ⟨by show tm.size = (sf.setT (some d) (nk.sv H.length)).tmps.length; rw [setT_len]; exact h.tms.size, fun t ht => ?_⟩
    have hne : some d ≠ some t := fun e => ht ⟨i, by simp, o, ho, by rw [hd, e]⟩
    show ((sf.setT (some d) (nk.sv H.length)).tmps.getD t (.tp [])).den ρ = _
    rw [(setT_get (sf := sf) (x := nk.sv H.length) hne).1]
    refine h.tms.den t ?_
    rintro ⟨u, hu, q, hq, hqd⟩
    exact ht ⟨u, by simp [hu], q, hq, hqd⟩
  · have h1 := (h.pnd u hu).setT (ar := ar) (o := o) (x := nk.sv H.length) (by rw [hd]; exact hlook u (.inl hu))
    rw [hd] at h1
    obtain ⟨q, hq, hc⟩ := h1
    refine ⟨q, hq, ?_⟩
    rcases hc with hc | ⟨c1, c2, y, c3, c4⟩
    · exact .inl hc
    · exact .inr ⟨c1, c2, y, sopG_heap0 c2 (fun t a n off x _ _ hl => sload_append _ hl) c3, c4⟩
  · rcases List.mem_cons.1 hu with e | hu2
    · cases e
      refine ⟨⟨o, d, nk, ks, T, ho, hd, by show d < (sf.setT (some d) (nk.sv H.length)).tmps.length; rw [setT_len]; exact hdl, ?_, hk, ?_, ?_, by simp⟩, fun _ => hH.fresh, fun hm => absurd (by simp) hm⟩
      · show wantedS ar.ops (sf.setT (some d) (nk.sv H.length)).tmps (sf.setT (some d) (nk.sv H.length)).gd o = .yes
        rw [wantedS_congr o hself]; exact hw
      · show sopG P (H ++ [SO.row false ks [] T]) (sf.setT (some d) (nk.sv H.length)).tmps (sf.setT (some d) (nk.sv H.length)).gd o = _
        rw [sopG_congr (ops := ar.ops.toList) o hself, ← sopG_heap1 (H := H) hk]; exact hs
      · exact getD_set_eq hdl
    · obtain ⟨h1, h2, h3⟩ := h.rsv u n hu2
      have h1' := h1.setT (ar := ar) (o := o) (x := nk.sv H.length) (by rw [hd]; exact hlook u (.inr ⟨n, hu2⟩))
      rw [hd] at h1'
      obtain ⟨q, e, nk', ks', T', k1, k2, k3, k4, k5, k6, k7, k8⟩ := h1'
      refine ⟨⟨q, e, nk', ks', T', k1, k2, k3, k4, k5, by rw [← sopG_heap1 (H := H) k5]; exact k6, k7, hkeep n _ k8⟩, fun hm => ?_, fun hm => h3 fun hm2 => hm (by simp [hm2])⟩
      rcases List.mem_cons.1 hm with rfl | hm
      · exact absurd hu2 (hiP.2 n)
      · exact h2 hm

end
end Go.Rl
