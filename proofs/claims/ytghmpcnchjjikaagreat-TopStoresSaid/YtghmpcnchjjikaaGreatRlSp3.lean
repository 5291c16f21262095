/-
  What the symbolic machine says is what the machine does (3): regions that draw their order.
-/
import Derived.Test.YtghmpcnchjjikaaGreatRlSp2
set_option linter.all false
set_option linter.unusedVariables false
set_option linter.unusedSimpArgs false
set_option linter.unnecessarySimpa false
namespace Go.Rl
open Go

def resN (sf : SFr) : List Nat :=
  match sf.cur with
  | some ar => ar.resv.map fun x => x.2
  | none => []

section
variable (P : Program)

/-- A float that was gone through here, perhaps not yet there. -/
def PendF (H : List SO) (sf : SFr) (ops : Array Oper) (u : Nat) : Prop :=
  ∃ o, ops[u]? = some o ∧
    ((wantedS ops sf.tmps sf.gd o = .no ∧ ∀ d, o.dst = some d → d < sf.tmps.length → sf.tmps.getD d (.tp []) = .tp []) ∨
     (wantedS ops sf.tmps sf.gd o = .yes ∧ opKind o.op = 0 ∧ ∃ y, (sopG P H sf.tmps sf.gd o).isVal y ∧ ∀ d, o.dst = some d → d < sf.tmps.length → sf.tmps.getD d (.tp []) = y))

/-- A new block that has a name here, perhaps not yet there. -/
def RsvOK (H : List SO) (sf : SFr) (ops : Array Oper) (u n : Nat) : Prop :=
  ∃ o d nk ks T, ops[u]? = some o ∧ o.dst = some d ∧ d < sf.tmps.length ∧ wantedS ops sf.tmps sf.gd o = .yes ∧ opKind o.op = 1 ∧
    sopG P H sf.tmps sf.gd o = .new nk ks T ∧ sf.tmps.getD d (.tp []) = nk.sv n ∧ H[n]? = some (.row false ks [] T)

structure AnyRel (ρ : Rho) (H : List SO) (sf : SFr) (ar : AnyR) (L U : List Nat) (tm : Array Value) : Prop where
  ok : RegOK ar.ops.toList
  pre : ∃ pre, norder ar.ops.toList = pre ++ ar.rest ∧ ∀ u, (u ∈ ar.pend ∨ ∃ n, (u, n) ∈ ar.resv) → u ∈ pre
  nodup : L.Nodup
  mem : ∀ i, i ∈ L ↔ i ∈ ar.rest ∨ i ∈ U
  sub : ∀ u ∈ U, u ∈ ar.pend ∨ ∃ n, (u, n) ∈ ar.resv
  topo : TopoL ar.ops.toList L
  closed : Closed ar.ops.toList L
  tms : TmRel ρ (fun t => ∃ u ∈ U, ∃ o, ar.ops[u]? = some o ∧ o.dst = some t) sf.tmps tm
  gds : GdOK sf.gd sf.tmps
  pnd : ∀ u ∈ ar.pend, PendF P H sf ar.ops u
  rsv : ∀ u n, (u, n) ∈ ar.resv → RsvOK P H sf ar.ops u n ∧ (u ∈ U → ρ n = none) ∧ (u ∉ U → ∃ b, ρ n = some b)

/-- The frame that runs. -/
def FrRel (ρ : Rho) (H : List SO) (sf : SFr) (fr : Frame) : Prop :=
  match sf.cur with
  | none => ∃ tm, fr = mkF sf.f tm sf.todo ∧ TmRel ρ (fun _ => False) sf.tmps tm ∧ GdOK sf.gd sf.tmps
  | some ar => ∃ tm L U, fr = mkF sf.f tm (.inRegion ar.ops L :: sf.todo) ∧ AnyRel P ρ H sf ar L U tm

/-- A frame that has called. -/
def FrRelC (ρ : Rho) (H : List SO) (sf : SFr) (fr : Frame) : Prop :=
  match sf.cur with
  | none => ∃ tm, fr = mkF sf.f tm sf.todo ∧ TmRel ρ (fun _ => False) sf.tmps tm ∧ GdOK sf.gd sf.tmps
  | some ar => ∃ tm L U i r, ar.rest = i :: r ∧ fr = mkF sf.f tm (.inRegion ar.ops (i :: L) :: sf.todo) ∧ AnyRel P ρ H sf ar (i :: L) U tm ∧ (∀ o, ar.ops[i]? = some o → asgB o = false)

end

section
variable {P : Program} {ρ ρ' : Rho} {H H' : List SO} {w : World}

/-- What a change of memory must leave to a frame. -/
structure Keeps (P : Program) (H H' : List SO) (sf : SFr) : Prop where
  loads : ∀ ar, sf.cur = some ar → ∀ u ∈ ar.pend, ∀ o t a n off x, ar.ops[u]? = some o → o.op = .load t a → sval sf.tmps a = .p n off → sload P H t n off = some x → sload P H' t n off = some x
  rows : ∀ n ∈ resN sf, ∀ ks T, H[n]? = some (.row false ks [] T) → H'[n]? = some (.row false ks [] T)

theorem Keeps.refl (sf : SFr) : Keeps P H H sf := ⟨fun _ _ _ _ _ _ _ _ _ _ _ _ _ h => h, fun _ _ _ _ h => h⟩

theorem Keeps.trans {H'' : List SO} {sf : SFr} (h : Keeps P H H' sf) (k : Keeps P H' H'' sf) : Keeps P H H'' sf :=
  ⟨fun ar ha u hu o t a n off x h1 h2 h3 h4 => k.loads ar ha u hu o t a n off x h1 h2 h3 (h.loads ar ha u hu o t a n off x h1 h2 h3 h4),
   fun n hn ks T hr => k.rows n hn ks T (h.rows n hn ks T hr)⟩

theorem PendF.keeps {sf : SFr} {ar : AnyR} (hc : sf.cur = some ar) {u : Nat} (hu : u ∈ ar.pend) (hk : Keeps P H H' sf) (h : PendF P H sf ar.ops u) : PendF P H' sf ar.ops u := by
  obtain ⟨o, ho, h⟩ := h
  refine ⟨o, ho, ?_⟩
  rcases h with h | ⟨h1, h2, y, h3, h4⟩
  · exact .inl h
  · exact .inr ⟨h1, h2, y, sopG_heap0 h2 (fun t a n off x e1 e2 e3 => hk.loads ar hc u hu o t a n off x ho e1 e2 e3) h3, h4⟩

theorem RsvOK.keeps {sf : SFr} {ar : AnyR} (hc : sf.cur = some ar) {u n : Nat} (hu : (u, n) ∈ ar.resv) (hk : Keeps P H H' sf) (h : RsvOK P H sf ar.ops u n) : RsvOK P H' sf ar.ops u n := by
  obtain ⟨o, d, nk, ks, T, h1, h2, h3, h4, h5, h6, h7, h8⟩ := h
  refine ⟨o, d, nk, ks, T, h1, h2, h3, h4, h5, by rw [← sopG_heap1 (H := H) h5]; exact h6, h7, hk.rows n ?_ ks T h8⟩
  unfold resN; rw [hc]
  exact List.mem_map.2 ⟨(u, n), hu, rfl⟩

theorem AnyRel.keeps {sf : SFr} {ar : AnyR} (hc : sf.cur = some ar) {L U : List Nat} {tm : Array Value} (hk : Keeps P H H' sf) (hl : ρ.le ρ') (hn : ∀ n ∈ resN sf, ρ' n = ρ n)
    (h : AnyRel P ρ H sf ar L U tm) : AnyRel P ρ' H' sf ar L U tm where
  ok := h.ok
  pre := h.pre
  nodup := h.nodup
  mem := h.mem
  sub := h.sub
  topo := h.topo
  closed := h.closed
  tms := h.tms.mono hl
  gds := h.gds
  pnd := fun u hu => (h.pnd u hu).keeps hc hu hk
  rsv := fun u n hu => by
    obtain ⟨h1, h2, h3⟩ := h.rsv u n hu
    have hm : n ∈ resN sf := by unfold resN; rw [hc]; exact List.mem_map.2 ⟨(u, n), hu, rfl⟩
    rw [hn n hm]
    exact ⟨h1.keeps hc hu hk, h2, h3⟩

theorem FrRel.keeps {sf : SFr} {fr : Frame} (hk : Keeps P H H' sf) (hl : ρ.le ρ') (hn : ∀ n ∈ resN sf, ρ' n = ρ n) (h : FrRel P ρ H sf fr) : FrRel P ρ' H' sf fr := by
  unfold FrRel at h ⊢
  cases hc : sf.cur with
  | none =>
    rw [hc] at h
    obtain ⟨tm, h1, h2, h3⟩ := h
    exact ⟨tm, h1, h2.mono hl, h3⟩
  | some ar =>
    rw [hc] at h
    obtain ⟨tm, L, U, h1, h2⟩ := h
    exact ⟨tm, L, U, h1, h2.keeps hc hk hl hn⟩

theorem FrRelC.keeps {sf : SFr} {fr : Frame} (hk : Keeps P H H' sf) (hl : ρ.le ρ') (hn : ∀ n ∈ resN sf, ρ' n = ρ n) (h : FrRelC P ρ H sf fr) : FrRelC P ρ' H' sf fr := by
  unfold FrRelC at h ⊢
  cases hc : sf.cur with
  | none =>
    rw [hc] at h
    obtain ⟨tm, h1, h2, h3⟩ := h
    exact ⟨tm, h1, h2.mono hl, h3⟩
  | some ar =>
    rw [hc] at h
    obtain ⟨tm, L, U, i, r, h0, h1, h2, h3⟩ := h
    exact ⟨tm, L, U, i, r, h0, h1, h2.keeps hc hk hl hn, h3⟩

/-! ### names that come to be blocks -/

theorem Holds.realize (h : Holds ρ H w) {n : Nat} {ks : List SV} {T : TypeId} {vs : List Value} (hn : H[n]? = some (.row false ks [] T)) (hr : ρ n = none) (hd : SV.denL ρ ks = some vs) :
    Holds (ρ.put n w.heap.size) H (w.alloc (.cells vs.toArray T (0, 0))) := by
  have hle := Rho.le_put (b := w.heap.size) hr
  have hput : ∀ m, m ≠ n → (ρ.put n w.heap.size) m = ρ m := fun m hm => by simp [Rho.put, hm]
  have hself : (ρ.put n w.heap.size) n = some w.heap.size := by simp [Rho.put]
  refine ⟨?_, ?_, ?_, ?_⟩
  · intro m live ks2 rest2 T2 hm
    by_cases hmn : m = n
    · subst hmn
      rw [hn] at hm
      simp only [Option.some.injEq, SO.row.injEq] at hm
      obtain ⟨rfl, rfl, rfl, rfl⟩ := hm
      refine ⟨fun hf => (by cases hf), fun b hb => ?_⟩
      rw [hself] at hb; cases hb
      exact ⟨vs, denL_mono hle hd, by simpa using alloc_at w _⟩
    · obtain ⟨h1, h2⟩ := h.row m _ _ _ _ hm
      rw [hput m hmn]
      refine ⟨h1, fun b hb => ?_⟩
      obtain ⟨us, hu, hc⟩ := h2 b hb
      exact ⟨us, denL_mono hle hu, by rw [alloc_lt w _ (h.lt m b hb).2]; exact hc⟩
  · intro m o hm
    have hmn : m ≠ n := fun e => by subst e; rw [hn] at hm; cases hm
    obtain ⟨b, hb, hc⟩ := h.obj m o hm
    exact ⟨b, by rw [hput m hmn]; exact hb, by rw [alloc_lt w _ (h.lt m b hb).2]; exact hc⟩
  · intro a c x ha hc h1 h2
    by_cases hae : a = n <;> by_cases hce : c = n
    · rw [hae, hce]
    · subst hae
      rw [hself] at h1; cases h1
      rw [hput c hce] at h2
      have := (h.lt c _ h2).2; omega
    · subst hce
      rw [hself] at h2; cases h2
      rw [hput a hae] at h1
      have := (h.lt a _ h1).2; omega
    · rw [hput a hae] at h1; rw [hput c hce] at h2
      exact h.inj a c x ha hc h1 h2
  · intro m b hb
    by_cases hmn : m = n
    · subst hmn
      rw [hself] at hb; cases hb
      exact ⟨(List.getElem?_eq_some_iff.1 hn).1, by rw [World.size_alloc]; omega⟩
    · rw [hput m hmn] at hb
      have := h.lt m b hb
      rw [World.size_alloc]; omega

theorem Moves.realize {n : Nat} (hr : ρ n = none) (o : Obj) : Moves ρ (ρ.put n w.heap.size) w (w.alloc o) :=
  ⟨rfl, rfl, rfl, by simp, fun b hb _ => alloc_lt w _ hb, Rho.le_put hr, fun m b hb => by
    unfold Rho.put at hb; split at hb
    · cases hb; exact .inr (Nat.le_refl _)
    · exact .inl ⟨_, hb⟩⟩

theorem Holds.reserve (h : Holds ρ H w) (ks : List SV) (T : TypeId) : Holds ρ (H ++ [.row false ks [] T]) w := by
  have hal : ∀ m, m < H.length → alive (H ++ [.row false ks [] T]) m → alive H m := by
    rintro m hm ⟨o, ho, hne⟩
    rw [List.getElem?_append_left hm] at ho
    exact ⟨o, ho, hne⟩
  refine ⟨?_, ?_, fun a c x ha hc h1 h2 => h.inj a c x (hal a (h.lt a x h1).1 ha) (hal c (h.lt c x h2).1 hc) h1 h2, fun m b hb => ?_⟩
  · intro m live ks2 rest2 T2 hm
    by_cases hlt : m < H.length
    · rw [List.getElem?_append_left hlt] at hm
      exact h.row m _ _ _ _ hm
    · have hml : m = H.length := by
        have := (List.getElem?_eq_some_iff.1 hm).1
        simp at this; omega
      subst hml
      simp at hm
      obtain ⟨rfl, rfl, rfl, rfl⟩ := hm
      refine ⟨fun hf => (by cases hf), fun b hb => ?_⟩
      rw [h.fresh] at hb; cases hb
  · intro m o hm
    by_cases hlt : m < H.length
    · rw [List.getElem?_append_left hlt] at hm
      exact h.obj m o hm
    · have hml : m = H.length := by
        have := (List.getElem?_eq_some_iff.1 hm).1
        simp at this; omega
      subst hml
      simp at hm
  · have := h.lt m b hb
    simp; omega

theorem Holds.live_now (h : Holds ρ H w) {n b : Nat} (hb : ρ n = some b) : Holds ρ (Rl.liven H n) w := by
  unfold Rl.liven
  split
  case h_2 => exact h
  case h_1 ks rest T hn =>
    have hal : ∀ m, alive (H.set n (.row true ks rest T)) m → alive H m := by
      rintro m ⟨o, hm, hne⟩
      rw [List.getElem?_set] at hm
      split at hm
      · rename_i e; subst e; exact ⟨_, hn, by simp⟩
      · exact ⟨o, hm, hne⟩
    have hlt := (List.getElem?_eq_some_iff.1 hn).1
    refine ⟨?_, ?_, fun a c x ha hc h1 h2 => h.inj a c x (hal a ha) (hal c hc) h1 h2, fun m c hc => by have := h.lt m c hc; simp; omega⟩
    · intro m live ks2 rest2 T2 hm
      rw [List.getElem?_set] at hm
      split at hm
      · rename_i e; subst e
        simp only [hlt, if_true, Option.some.injEq, SO.row.injEq] at hm
        obtain ⟨rfl, rfl, rfl, rfl⟩ := hm
        exact ⟨fun _ => ⟨b, hb⟩, (h.row n _ _ _ _ hn).2⟩
      · exact h.row m _ _ _ _ hm
    · intro m o hm
      rw [List.getElem?_set] at hm
      split at hm
      · rename_i e; subst e
        simp [hlt] at hm
      · exact h.obj m o hm

theorem sload_liven {t n m off : Nat} {y : SV} (h : sload P H t n off = some y) : sload P (liven H m) t n off = some y := by
  unfold Rl.liven
  split
  case h_2 => exact h
  case h_1 ks rest T hm =>
    refine sload_set_other (fun e => ?_) h
    subst e
    unfold sload at h
    cases ha : isAg P t with
    | none => simp [ha] at h
    | some ag =>
      cases hz : tsz P t with
      | none => simp [ha, hz] at h
      | some sz => simp [ha, hz, hm, ksOf] at h

theorem row_liven {n m : Nat} {o : SO} (hne : n ≠ m) (h : H[n]? = some o) : (liven H m)[n]? = some o := by
  unfold Rl.liven
  split
  · rw [List.getElem?_set_ne (Ne.symm hne)]; exact h
  · exact h

theorem livenAll_spec : ∀ {l : List (Nat × Nat)} {H : List SO}, Holds ρ H w → (∀ u n, (u, n) ∈ l → ∃ b, ρ n = some b) →
    Holds ρ (livenAll H l) w ∧ (∀ t n off y, sload P H t n off = some y → sload P (livenAll H l) t n off = some y) ∧
    (∀ n o, (∀ u, (u, n) ∉ l) → H[n]? = some o → (livenAll H l)[n]? = some o)
  | [], H, h, _ => ⟨h, fun _ _ _ _ h => h, fun _ _ _ h => h⟩
  | (u, m) :: r, H, h, hb => by
    obtain ⟨b, hbm⟩ := hb u m (by simp)
    obtain ⟨h1, h2, h3⟩ := livenAll_spec (l := r) (H := liven H m) (h.live_now hbm) (fun u n hu => hb u n (List.mem_cons_of_mem _ hu))
    refine ⟨h1, fun t n off y hy => h2 t n off y (sload_liven hy), fun n o hn ho => h3 n o (fun u hu => hn u (List.mem_cons_of_mem _ hu)) (row_liven (fun e => hn u (by rw [e]; simp)) ho)⟩

end
end Go.Rl
