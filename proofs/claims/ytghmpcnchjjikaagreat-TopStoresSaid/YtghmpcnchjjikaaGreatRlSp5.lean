/-
  What the symbolic machine says is what the machine does (5): what is to be shown of a state, and what its steps are good for.
-/
import Derived.Test.YtghmpcnchjjikaaGreatRlSp4
set_option linter.all false
set_option linter.unusedVariables false
set_option linter.unusedSimpArgs false
set_option linter.unnecessarySimpa false
namespace Go.Rl
open Go

abbrev Imm := Nat → Option Obj

inductive All2 {α β : Type} (R : α → β → Prop) : List α → List β → Prop where
  | nil : All2 R [] []
  | cons {a : α} {b : β} {l : List α} {m : List β} (h : R a b) (t : All2 R l m) : All2 R (a :: l) (b :: m)

/-- What a call is to come to: 'Q' of its result and of the memory that is known. -/
structure Ctx where
  P : Program
  hm : P.follows .mixedOrders = true
  f0 : FuncId
  ρ0 : Rho
  w0 : World
  Q : SV → List SO → Imm → Prop

def ImmOK (I : Imm) (ρ : Rho) (w : World) : Prop := ∀ b o, I b = some o → w.heap[b]? = some o ∧ ∀ n, ρ n ≠ some b

theorem ImmOK.moves {I : Imm} {ρ ρ' : Rho} {w w' : World} (h : ImmOK I ρ w) (hm : Moves ρ ρ' w w') : ImmOK I ρ' w' := by
  intro b o hb
  obtain ⟨h1, h2⟩ := h b o hb
  have hlt : b < w.heap.size := (Array.getElem?_eq_some_iff.1 h1).1
  refine ⟨by rw [hm.old b hlt h2]; exact h1, fun n hn => ?_⟩
  rcases hm.new n b hn with ⟨m, h3⟩ | h3
  · exact h2 m h3
  · omega

def lastF (sf : SFr) : List SFr → FuncId
  | [] => sf.f
  | c :: cs => lastF c cs

theorem lastF_eq {sf sf' : SFr} (h : sf'.f = sf.f) : ∀ cs, lastF sf' cs = lastF sf cs
  | [] => h
  | _ :: _ => rfl

structure St (C : Ctx) (I : Imm) (S : SS) (ρ : Rho) (w : World) (fr : Frame) (inner : List Frame) : Prop where
  holds : Holds ρ S.heap w
  moves : Moves C.ρ0 ρ C.w0 w
  imm : ImmOK I ρ w
  names : (S.frames.flatMap resN).Nodup
  frs : ∃ sf cs, S.frames = sf :: cs ∧ FrRel C.P ρ S.heap sf fr ∧ All2 (FrRelC C.P ρ S.heap) cs inner ∧ lastF sf cs = C.f0

def Fin (C : Ctx) (e : Ending) (w' : World) : Prop :=
  ∃ x H ρ I val, e = .returned val ∧ SV.den ρ x = some val ∧ Holds ρ H w' ∧ Moves C.ρ0 ρ C.w0 w' ∧ ImmOK I ρ w' ∧ C.Q x H I

def GoodF (C : Ctx) (fr : Frame) (inner : List Frame) (w : World) : Prop :=
  ∀ cs, ∃ e w' fr', Fin C e w' ∧ Comes C.P (lone fr (inner ++ cs) w) (lone fr' cs w') e ∧ fr'.fn = C.f0 ∧ fr'.leaving C.P w' e

def WPs (C : Ctx) (I : Imm) (S : SS) : Prop := ∀ ρ w fr inner, St C I S ρ w fr inner → GoodF C fr inner w

theorem GoodF.steps {C : Ctx} {fr fr' : Frame} {inner inner' : List Frame} {w w' : World} (h : StepsC C.P fr inner w fr' inner' w') (g : GoodF C fr' inner' w') : GoodF C fr inner w := by
  intro cs
  obtain ⟨e, w1, fr1, h1, h2, h3⟩ := g cs
  exact ⟨e, w1, fr1, h1, .of_steps (h cs) h2, h3⟩

def Sim (C : Ctx) (I : Imm) (S S' : SS) : Prop :=
  ∀ ρ w fr inner, St C I S ρ w fr inner → ∃ ρ' w' fr' inner', StepsC C.P fr inner w fr' inner' w' ∧ St C I S' ρ' w' fr' inner'

theorem Sim.wp {C : Ctx} {I : Imm} {S S' : SS} (h : Sim C I S S') (g : WPs C I S') : WPs C I S := by
  intro ρ w fr inner hs
  obtain ⟨ρ', w', fr', inner', h1, h2⟩ := h ρ w fr inner hs
  exact (g ρ' w' fr' inner' h2).steps h1

section
variable {C : Ctx} {I : Imm} {H H' : List SO} {sf sf' : SFr} {cs : List SFr} {ρ ρ' : Rho} {w w' : World} {fr fr' : Frame} {inner : List Frame}

theorem St.top (h : St C I ⟨sf :: cs, H⟩ ρ w fr inner) : FrRel C.P ρ H sf fr ∧ All2 (FrRelC C.P ρ H) cs inner ∧ lastF sf cs = C.f0 := by
  obtain ⟨sf', cs', he, h1, h2, h3⟩ := h.frs
  simp only [List.cons.injEq] at he
  obtain ⟨rfl, rfl⟩ := he
  exact ⟨h1, h2, h3⟩

theorem forall₂_imp {α β : Type} {R R' : α → β → Prop} : ∀ {l : List α} {m : List β}, All2 R l m → (∀ a ∈ l, ∀ b, R a b → R' a b) → All2 R' l m
  | _, _, .nil, _ => .nil
  | _, _, .cons h t, hi => .cons (hi _ (by simp) _ h) (forall₂_imp t fun a ha b hb => hi a (List.mem_cons_of_mem _ ha) b hb)

/-- The frame that runs, and memory, turn. -/
theorem St.turn (h : St C I ⟨sf :: cs, H⟩ ρ w fr inner) (hH : Holds ρ' H' w') (hm : Moves ρ ρ' w w') (hfr : FrRel C.P ρ' H' sf' fr') (hf : sf'.f = sf.f)
    (hk : ∀ c ∈ cs, Keeps C.P H H' c) (hn : ∀ c ∈ cs, ∀ n ∈ resN c, ρ' n = ρ n) (hnd : (resN sf' ++ cs.flatMap resN).Nodup) : St C I ⟨sf' :: cs, H'⟩ ρ' w' fr' inner := by
  obtain ⟨h1, h2, h3⟩ := h.top
  refine ⟨hH, h.moves.trans hm, h.imm.moves hm, by simpa using hnd, sf', cs, rfl, hfr, forall₂_imp h2 fun c hc b hb => hb.keeps (hk c hc) hm.le (hn c hc), ?_⟩
  rw [lastF_eq hf]; exact h3

theorem St.callers (h : St C I ⟨sf :: cs, H⟩ ρ w fr inner) : (cs.flatMap resN).Nodup := by
  have := h.names
  simp only [List.flatMap_cons] at this
  exact (List.nodup_append.1 this).2.1

theorem St.tops (h : St C I ⟨sf :: cs, H⟩ ρ w fr inner) : (resN sf ++ cs.flatMap resN).Nodup := by simpa using h.names

theorem FrRelC.name_lt {c : SFr} {b : Frame} (h : FrRelC C.P ρ H c b) {n : Nat} (hn : n ∈ resN c) : ∃ ks T, H[n]? = some (.row false ks [] T) := by
  unfold FrRelC at h
  unfold resN at hn
  cases hc : c.cur with
  | none => rw [hc] at hn; cases hn
  | some ar =>
    rw [hc] at h hn
    obtain ⟨tm, L, U, i, r, h0, h1, h2, _⟩ := h
    obtain ⟨⟨u, m⟩, hu, rfl⟩ := List.mem_map.1 hn
    obtain ⟨o, d, nk, ks, T, _, _, _, _, _, _, _, h8⟩ := (h2.rsv u m hu).1
    exact ⟨ks, T, h8⟩

theorem forall₂_mem {α β : Type} {R : α → β → Prop} : ∀ {l : List α} {m : List β}, All2 R l m → ∀ a ∈ l, ∃ b ∈ m, R a b
  | _, _, .nil, _, ha => by cases ha
  | _, _, .cons h t, a, ha => by
    rcases List.mem_cons.1 ha with rfl | ha
    · exact ⟨_, by simp, h⟩
    · obtain ⟨b, hb, hr⟩ := forall₂_mem t a ha
      exact ⟨b, by simp [hb], hr⟩

theorem St.caller_row (h : St C I ⟨sf :: cs, H⟩ ρ w fr inner) {c : SFr} (hc : c ∈ cs) {n : Nat} (hn : n ∈ resN c) : ∃ ks T, H[n]? = some (.row false ks [] T) := by
  obtain ⟨b, _, hb⟩ := forall₂_mem h.top.2.1 c hc
  exact hb.name_lt hn

theorem St.caller_lt (h : St C I ⟨sf :: cs, H⟩ ρ w fr inner) {c : SFr} (hc : c ∈ cs) {n : Nat} (hn : n ∈ resN c) : n < H.length := by
  obtain ⟨ks, T, hr⟩ := h.caller_row hc hn
  exact (List.getElem?_eq_some_iff.1 hr).1

theorem Keeps.append (x : SO) (c : SFr) : Keeps C.P H (H ++ [x]) c :=
  ⟨fun _ _ _ _ _ _ _ _ _ _ _ _ _ hs => sload_append x hs, fun n _ ks T hr => by rw [List.getElem?_append_left (List.getElem?_eq_some_iff.1 hr).1]; exact hr⟩

/-- A store beside what is held. -/
theorem Keeps.store {P : Program} {tm : List SV} {o : Oper} {c : SFr} {t : TypeId} {a x : Operand} {n off sz : Nat} (ho : o.op = .store t a x) (ha : sval tm a = .p n off) (hz : tsz P t = some sz)
    (hcl : clear (heldOf P c) n off sz = true) (hs : sstore P H t n off (sval tm x) = some H') : Keeps P H H' c := by
  have hrow : ∀ m, m ≠ n → H'[m]? = H[m]? := by
    intro m hm
    unfold sstore at hs
    cases hcs : cellsS (sval tm x) with
    | none => simp [hz, hcs] at hs
    | some l =>
      simp only [hz, hcs, Option.bind_some] at hs
      split at hs
      case h_2 => cases hs
      case h_1 =>
        split at hs
        · simp only [Option.some.injEq] at hs
          subst hs
          rw [List.getElem?_set_ne (Ne.symm hm)]
        · cases hs
  have hn : ∀ ks T, H[n]? ≠ some (.row false ks [] T) := by
    intro ks T hr
    unfold sstore at hs
    cases hcs : cellsS (sval tm x) with
    | none => simp [hz, hcs] at hs
    | some l => simp [hz, hcs, hr] at hs
  refine ⟨fun ar hc u hu q lt la m lo y hq hl hla hload => ?_, fun m _ ks T hr => ?_⟩
  · cases hz2 : tsz P lt with
    | none => unfold sload at hload; cases hag : isAg P lt <;> simp [hag, hz2] at hload
    | some lz =>
      have hmem : (m, lo, lz) ∈ heldOf P c := by
        unfold heldOf
        rw [hc]
        refine List.mem_filterMap.2 ⟨u, hu, ?_⟩
        simp [hq, hl, hla, hz2]
      unfold clear at hcl
      have := List.all_eq_true.1 hcl _ hmem
      simp only [Bool.or_eq_true, Bool.and_eq_true, Bool.not_eq_true'] at this
      by_cases hone : isAg P lt = some true
      · refine sload_store hload hs hz2 hz (.inr trivial) ?_
        rw [if_pos hone]
        rcases this with (h1 | h1) | h1
        · exact .inl fun e => by subst e; simp at h1
        · exact .inr (.inl (Nat.le_of_ble_eq_true h1.1))
        · exact .inr (.inr (Nat.le_of_ble_eq_true h1))
      · refine sload_store hload hs hz2 hz (.inr trivial) ?_
        rw [if_neg hone]
        rcases this with (h1 | h1) | h1
        · exact .inl fun e => by subst e; simp at h1
        · have h1' : lo < off := by simpa [Nat.blt_eq] using h1.2
          exact .inr (.inl (by omega))
        · exact .inr (.inr (Nat.le_of_ble_eq_true h1))
  · rw [hrow m fun e => hn ks T (e ▸ hr)]; exact hr

end
end Go.Rl
