/-
  Ways that go on behind what the machine leaves: one run with orders, and what is to be shown of it.
-/
import Derived.Test.YtghmpcnchjjikaaGreatRlSrb
set_option linter.all false
set_option linter.unusedVariables false
set_option linter.unusedSimpArgs false
set_option linter.unnecessarySimpa false
namespace Go.Rl
open Go

/-- What is not known ahead: room that an append took, cells behind, a value, what was forgotten. -/
structure Orc where
  n : Nat
  l : List Value
  v : Value
  j : Nat → Value
  jc : Nat → Nat → Value

instance : Inhabited Orc := ⟨⟨0, [], default, fun _ => default, fun _ _ => default⟩⟩

/-- What is to be done next: go on, with decisions; an append without room; a first entry of a map; a slice of open length; a call of a known result, of what has a body or none; an element's address; a load of what never turns; forget. -/
inductive Cmd where
  | seg (ds : List Bool)
  | grow
  | first
  | make (lo : Nat)
  | call (y : SV)
  | ext (y : SV)
  | elem
  | imm (vs : List Value)
  | canon (keep : List (Nat × List Nat)) (sc : List Nat)
  | imm1 (v : Value)
  | mlen
  | app (op : Bool)
  | segn (n : Nat) (ds : List Bool)

/-- What is to be shown, or may be taken. -/
inductive Item where
  | eq (a b : Bool)
  | le (a b : Nat)
  | make (lo : Nat) (n m : Int) (len : Nat) (size : Nat) (zc : List SV) (rest : List Value)
  | call (f : FuncId) (args : List SV) (y : SV)
  | ext (f : FuncId) (args : List SV) (y : SV)
  | idx (i : Int) (len : Nat)
  | imm (a : Addr) (sz : Nat) (vs : List Value)
  | keep (keep : List (Nat × List Nat))
  | imm1 (a : Addr) (v : Value)
  | app (len cap total sz need bytes known now cap' : Nat)

inductive RE where
  | at (S : SS)
  | done (x : SV) (H : List SO)

def eqs (obs : List (Bool × Bool)) : List Item := obs.map fun p => .eq p.1 p.2

def run (P : Program) (st : Stops) : List Cmd → List Orc → SS → Option (List Item × RE)
  | [], _, S => some ([], .at S)
  | .seg ds :: r, os, S =>
    (match adv P st 100000 ds [] S with
    | .at obs S' => (run P st r os S').map fun q => (eqs obs ++ q.1, q.2)
    | .done obs x H => (match r with | [] => some (eqs obs, .done x H) | _ :: _ => none))
  | .segn n ds :: r, os, S =>
    (match adv P st n ds [] S with
    | .at obs S' => (run P st r os S').map fun q => (eqs obs ++ q.1, q.2)
    | .done _ _ _ => none)
  | .grow :: r, os, S =>
    (match os with
    | [] => none
    | o :: os => (growAt P S).bind fun g => (run P st r os (growS S g.1 g.2.1 g.2.2 o.n o.l)).map fun q => (.le g.1 o.n :: q.1, q.2))
  | .first :: r, os, S =>
    (match os with
    | [] => none
    | o :: os => (firstAt P S).bind fun g => run P st r os (firstS S g.1 g.2.1 g.2.2.1 g.2.2.2 o.v))
  | .make lo :: r, os, S =>
    (match os with
    | [] => none
    | o :: os => (makeAt P S).bind fun g => match Nat.ble g.2.2.2.1 16777216 with
      | true => (run P st r os (behind S (.so S.heap.length 0 o.n o.n lo) (S.heap ++ [.row true (repL g.2.2.2.2.2 lo) o.l g.2.2.1]))).map fun q => (.make lo g.1 g.2.1 o.n g.2.2.2.2.1 g.2.2.2.2.2 o.l :: q.1, q.2)
      | false => none)
  | .call y :: r, os, S => (calleeAt P S).bind fun g => (run P st r os (behind S y S.heap)).map fun q => (.call g.1 g.2 y :: q.1, q.2)
  | .ext y :: r, os, S => (externAt P S).bind fun g => (run P st r os (behind S y S.heap)).map fun q => (.ext g.1 g.2 y :: q.1, q.2)
  | .elem :: r, os, S => (elemAt P S).bind fun g => (run P st r os (behind S (.v (.pointer (some (g.1.add (g.2.2.1.toNat * g.2.2.2))))) S.heap)).map fun q => (.idx g.2.2.1 g.2.1 :: q.1, q.2)
  | .imm vs :: r, os, S => (immAt P S).bind fun g => match isAg P g.1, tsz P g.1 with
    | some true, some sz => (match Nat.beq vs.length sz with
      | true => (run P st r os (behind S (.ag (vs.map .v)) S.heap)).map fun q => (.imm g.2 sz vs :: q.1, q.2)
      | false => none)
    | _, _ => none
  | .canon keep sc :: r, os, S =>
    (match os with
    | [] => none
    | o :: os => (canonS keep sc o.j o.jc S).bind fun S' => (run P st r os S').map fun q => (.keep keep :: q.1, q.2))
  | .imm1 v :: r, os, S => (imm1At P S).bind fun a => (run P st r os (behind S (.v v) S.heap)).map fun q => (.imm1 a v :: q.1, q.2)
  | .mlen :: r, os, S => (mlenAt P S).bind fun y => run P st r os (behind S y S.heap)
  | .app op :: r, os, S =>
    (match os with
    | [] => none
    | o :: os => (appA P S).bind fun A => (run P st r os (appS S A op o.n o.l)).map fun q => (.app A.len A.cap A.total A.sz (A.len + A.k) A.bytes (A.ks op).length o.l.length o.n :: q.1, q.2))

def Cmd.asks : Cmd → Nat
  | .grow => 1
  | .first => 1
  | .make _ => 1
  | .canon _ _ => 1
  | .app _ => 1
  | _ => 0

def asks : List Cmd → Nat
  | [] => 0
  | c :: r => asks r + c.asks

/-- A call that changes nothing that was there, of which the result is known. -/
def IsCall (P : Program) (f : FuncId) (args : List SV) (y : SV) : Prop :=
  ∃ V, (∀ ρ, y.den ρ = some V) ∧ ∀ ρ w vs, SV.denL ρ args = some vs → Calls P f vs.toArray w fun e w' => ∃ v, e = .returned v ∧ Quiet w w' ∧ v = V

def IsExt (P : Program) (f : FuncId) (args : List SV) (y : SV) : Prop :=
  ∀ ρ vs (w : World), SV.denL ρ args = some vs → ∃ v, (callFunc f vs.toArray).run P w = .ok (.value v) w ∧ y.den ρ = some v

/-- Cells that never turn. -/
def IsImm (I : Imm) (a : Addr) (sz : Nat) (vs : List Value) : Prop :=
  a.spot = none ∧ ∃ cs T fz, I a.block = some (.cells cs T fz) ∧ (cs.toList.drop a.off).take sz = vs

def hold (C : Ctx) (I : Imm) : List Item → Prop → Prop
  | [], K => K
  | .eq a b :: l, K => a = b ∧ hold C I l K
  | .le a b :: l, K => a ≤ b → hold C I l K
  | .make lo n m len size zc rest :: l, K => (m = n ∧ (lo : Int) ≤ n ∧ n ≤ 16777216) ∧ ((len : Int) = n → IsZero size zc lo len rest → hold C I l K)
  | .call f args y :: l, K => IsCall C.P f args y ∧ hold C I l K
  | .ext f args y :: l, K => IsExt C.P f args y ∧ hold C I l K
  | .idx i len :: l, K => (0 ≤ i ∧ i < (len : Int)) ∧ hold C I l K
  | .imm a sz vs :: l, K => IsImm I a sz vs ∧ hold C I l K
  | .imm1 a v :: l, K => (a.spot = none ∧ ∃ cs T fz, I a.block = some (.cells cs T fz) ∧ cs[a.off]? = some v) ∧ hold C I l K
  | .app len cap total sz need bytes known now cap' :: l, K => (len ≤ cap ∧ total = cap * sz ∧ need * bytes ≤ 140737488355328 ∧ need ≤ 4611686018427387904) ∧ (need ≤ cap' → known + now = cap' * sz → hold C I l K)
  | .keep keep :: l, K => (∀ n b, C.ρ0 n = some b → ∃ cs, keep[n]? = some (n, cs)) ∧ hold C I l K

def RE.good (C : Ctx) (I : Imm) : RE → Prop
  | .at S => WPs C I S
  | .done x H => C.Q x H I

section
variable {C : Ctx} {I : Imm}

theorem hold_eqs {l : List Item} {K : Prop} : ∀ {obs : List (Bool × Bool)}, hold C I (eqs obs ++ l) K ↔ (∀ p ∈ obs, p.1 = p.2) ∧ hold C I l K
  | [] => by simp [eqs]
  | p :: obs => by
    have := hold_eqs (l := l) (K := K) (obs := obs)
    simp only [eqs, List.map_cons, List.cons_append, hold, List.forall_mem_cons] at this ⊢
    rw [this, and_assoc]

theorem hold_mono {K K' : Prop} (h : K → K') : ∀ {l : List Item}, hold C I l K → hold C I l K'
  | [], k => h k
  | .eq _ _ :: _, k => ⟨k.1, hold_mono h k.2⟩
  | .le _ _ :: _, k => fun q => hold_mono h (k q)
  | .make _ _ _ _ _ _ _ :: _, k => ⟨k.1, fun q q' => hold_mono h (k.2 q q')⟩
  | .call _ _ _ :: _, k => ⟨k.1, hold_mono h k.2⟩
  | .ext _ _ _ :: _, k => ⟨k.1, hold_mono h k.2⟩
  | .idx _ _ :: _, k => ⟨k.1, hold_mono h k.2⟩
  | .imm _ _ _ :: _, k => ⟨k.1, hold_mono h k.2⟩
  | .imm1 _ _ :: _, k => ⟨k.1, hold_mono h k.2⟩
  | .app _ _ _ _ _ _ _ _ _ :: _, k => ⟨k.1, fun q q' => hold_mono h (k.2 q q')⟩
  | .keep _ :: _, k => ⟨k.1, hold_mono h k.2⟩

abbrev Runs (C : Ctx) (I : Imm) (st : Stops) (cmds : List Cmd) (os : List Orc) (S : SS) : Prop := ∃ l e, run C.P st cmds os S = some (l, e) ∧ hold C I l (e.good C I)

theorem run_good (st : Stops) : ∀ (cmds : List Cmd) {S : SS}, (∀ os, os.length = asks cmds → Runs C I st cmds os S) → WPs C I S
  | [], S, h => by
    obtain ⟨l, e, h1, h2⟩ := h [] rfl
    simp only [run, Option.some.injEq, Prod.mk.injEq] at h1
    obtain ⟨rfl, rfl⟩ := h1
    exact h2
  | .seg ds :: r, S, h => by
    cases ha : adv C.P st 100000 ds [] S with
    | «at» obs S' =>
      have key : ∀ os, os.length = asks r → (∀ p ∈ obs, p.1 = p.2) ∧ Runs C I st r os S' := by
        intro os hos
        obtain ⟨l, e, h1, h2⟩ := h os (by simpa [asks, Cmd.asks] using hos)
        simp only [run, ha, Option.map_eq_some_iff] at h1
        obtain ⟨⟨l', e'⟩, hq, he⟩ := h1
        simp only [Prod.mk.injEq] at he
        obtain ⟨rfl, rfl⟩ := he
        obtain ⟨h3, h4⟩ := hold_eqs.1 h2
        exact ⟨h3, l', e', hq, h4⟩
      exact WPs.path C.hm st ha (key (List.replicate (asks r) default) (by simp)).1 (run_good st r fun os hos => (key os hos).2)
    | done obs x H =>
      cases r with
      | cons c r =>
        obtain ⟨l, e, h1, h2⟩ := h (List.replicate (asks (.seg ds :: c :: r)) default) (by simp)
        simp [run, ha] at h1
      | nil =>
        obtain ⟨l, e, h1, h2⟩ := h [] rfl
        simp only [run, ha, Option.some.injEq, Prod.mk.injEq] at h1
        obtain ⟨rfl, rfl⟩ := h1
        rw [← List.append_nil (eqs obs)] at h2
        obtain ⟨h3, h4⟩ := hold_eqs.1 h2
        exact WPs.fin C.hm st ha h3 h4
  | .segn n ds :: r, S, h => by
    cases ha : adv C.P st n ds [] S with
    | «at» obs S' =>
      have key : ∀ os, os.length = asks r → (∀ p ∈ obs, p.1 = p.2) ∧ Runs C I st r os S' := by
        intro os hos
        obtain ⟨l, e, h1, h2⟩ := h os (by simpa [asks, Cmd.asks] using hos)
        simp only [run, ha, Option.map_eq_some_iff] at h1
        obtain ⟨⟨l', e'⟩, hq, he⟩ := h1
        simp only [Prod.mk.injEq] at he
        obtain ⟨rfl, rfl⟩ := he
        obtain ⟨h3, h4⟩ := hold_eqs.1 h2
        exact ⟨h3, l', e', hq, h4⟩
      exact WPs.path C.hm st ha (key (List.replicate (asks r) default) (by simp)).1 (run_good st r fun os hos => (key os hos).2)
    | done obs x H =>
      obtain ⟨l, e, h1, h2⟩ := h (List.replicate (asks (.segn n ds :: r)) default) (by simp)
      simp [run, ha] at h1
  | .grow :: r, S, h => by
    cases hg : growAt C.P S with
    | none =>
      obtain ⟨l, e, h1, h2⟩ := h (List.replicate (asks (.grow :: r)) default) (by simp)
      simp [run, asks, Cmd.asks, List.replicate_succ, hg] at h1
    | some g =>
      obtain ⟨need, cells, e⟩ := g
      refine WPs.grow hg fun cap rest hle => ?_
      refine run_good st r fun os hos => ?_
      obtain ⟨l, en, h1, h2⟩ := h (⟨cap, rest, default, fun _ => default, fun _ _ => default⟩ :: os) (by simp [asks, Cmd.asks, hos])
      simp only [run, hg, Option.bind_some, Option.map_eq_some_iff] at h1
      obtain ⟨⟨l', e'⟩, hq, he⟩ := h1
      simp only [Prod.mk.injEq] at he
      obtain ⟨rfl, rfl⟩ := he
      exact ⟨l', e', hq, h2 hle⟩
  | .first :: r, S, h => by
    cases hg : firstAt C.P S with
    | none =>
      obtain ⟨l, e, h1, h2⟩ := h (List.replicate (asks (.first :: r)) default) (by simp)
      simp [run, asks, Cmd.asks, List.replicate_succ, hg] at h1
    | some g =>
      obtain ⟨n, q, a, c⟩ := g
      refine WPs.mapFirst hg fun v => ?_
      refine run_good st r fun os hos => ?_
      obtain ⟨l, en, h1, h2⟩ := h (⟨0, [], v, fun _ => default, fun _ _ => default⟩ :: os) (by simp [asks, Cmd.asks, hos])
      simp only [run, hg, Option.bind_some] at h1
      exact ⟨l, en, h1, h2⟩
  | .make lo :: r, S, h => by
    cases hg : makeAt C.P S with
    | none =>
      obtain ⟨l, e, h1, h2⟩ := h (List.replicate (asks (.make lo :: r)) default) (by simp)
      simp [run, asks, Cmd.asks, List.replicate_succ, hg] at h1
    | some g =>
      obtain ⟨n, m, e, bytes, size, zc⟩ := g
      have key : ∀ (o : Orc) (os : List Orc), os.length = asks r → (Nat.ble bytes 16777216 = true ∧ m = n ∧ (lo : Int) ≤ n ∧ n ≤ 16777216) ∧
          ((o.n : Int) = n → IsZero size zc lo o.n o.l → Runs C I st r os (behind S (.so S.heap.length 0 o.n o.n lo) (S.heap ++ [.row true (repL zc lo) o.l e]))) := by
        intro o os hos
        obtain ⟨l, en, h1, h2⟩ := h (o :: os) (by simp [asks, Cmd.asks, hos])
        simp only [run, hg, Option.bind_some] at h1
        cases hb : Nat.ble bytes 16777216 with
        | false => rw [hb] at h1; cases h1
        | true =>
          rw [hb] at h1
          simp only [Option.map_eq_some_iff] at h1
          obtain ⟨⟨l', e'⟩, hq, he⟩ := h1
          simp only [Prod.mk.injEq] at he
          obtain ⟨rfl, rfl⟩ := he
          exact ⟨⟨rfl, h2.1⟩, fun hn hz => ⟨l', e', hq, h2.2 hn hz⟩⟩
      obtain ⟨k1, k2, k3, k4⟩ := (key default (List.replicate (asks r) default) (by simp)).1
      refine WPs.makeSym lo hg k2 k3 k4 (Nat.le_of_ble_eq_true k1) fun len rest hn hz => ?_
      exact run_good st r fun os hos => (key ⟨len, rest, default, fun _ => default, fun _ _ => default⟩ os hos).2 hn hz
  | .call y :: r, S, h => by
    cases hg : calleeAt C.P S with
    | none =>
      obtain ⟨l, e, h1, h2⟩ := h (List.replicate (asks (.call y :: r)) default) (by simp)
      simp [run, hg] at h1
    | some g =>
      obtain ⟨f, args⟩ := g
      have key : ∀ os, os.length = asks r → IsCall C.P f args y ∧ Runs C I st r os (behind S y S.heap) := by
        intro os hos
        obtain ⟨l, en, h1, h2⟩ := h os (by simpa [asks, Cmd.asks] using hos)
        simp only [run, hg, Option.bind_some, Option.map_eq_some_iff] at h1
        obtain ⟨⟨l', e'⟩, hq, he⟩ := h1
        simp only [Prod.mk.injEq] at he
        obtain ⟨rfl, rfl⟩ := he
        exact ⟨h2.1, l', e', hq, h2.2⟩
      obtain ⟨V, k1, k2⟩ := (key (List.replicate (asks r) default) (by simp)).1
      exact WPs.callIs y hg k1 k2 (run_good st r fun os hos => (key os hos).2)
  | .ext y :: r, S, h => by
    cases hg : externAt C.P S with
    | none =>
      obtain ⟨l, e, h1, h2⟩ := h (List.replicate (asks (.ext y :: r)) default) (by simp)
      simp [run, hg] at h1
    | some g =>
      obtain ⟨f, args⟩ := g
      have key : ∀ os, os.length = asks r → IsExt C.P f args y ∧ Runs C I st r os (behind S y S.heap) := by
        intro os hos
        obtain ⟨l, en, h1, h2⟩ := h os (by simpa [asks, Cmd.asks] using hos)
        simp only [run, hg, Option.bind_some, Option.map_eq_some_iff] at h1
        obtain ⟨⟨l', e'⟩, hq, he⟩ := h1
        simp only [Prod.mk.injEq] at he
        obtain ⟨rfl, rfl⟩ := he
        exact ⟨h2.1, l', e', hq, h2.2⟩
      exact WPs.extern hg y (key (List.replicate (asks r) default) (by simp)).1 (run_good st r fun os hos => (key os hos).2)
  | .elem :: r, S, h => by
    cases hg : elemAt C.P S with
    | none =>
      obtain ⟨l, e, h1, h2⟩ := h (List.replicate (asks (.elem :: r)) default) (by simp)
      simp [run, hg] at h1
    | some g =>
      obtain ⟨a, len, i, sz⟩ := g
      have key : ∀ os, os.length = asks r → (0 ≤ i ∧ i < (len : Int)) ∧ Runs C I st r os (behind S (.v (.pointer (some (a.add (i.toNat * sz))))) S.heap) := by
        intro os hos
        obtain ⟨l, en, h1, h2⟩ := h os (by simpa [asks, Cmd.asks] using hos)
        simp only [run, hg, Option.bind_some, Option.map_eq_some_iff] at h1
        obtain ⟨⟨l', e'⟩, hq, he⟩ := h1
        simp only [Prod.mk.injEq] at he
        obtain ⟨rfl, rfl⟩ := he
        exact ⟨h2.1, l', e', hq, h2.2⟩
      exact WPs.elem hg (key (List.replicate (asks r) default) (by simp)).1 (run_good st r fun os hos => (key os hos).2)
  | .imm vs :: r, S, h => by
    cases hg : immAt C.P S with
    | none =>
      obtain ⟨l, e, h1, h2⟩ := h (List.replicate (asks (.imm vs :: r)) default) (by simp)
      simp [run, hg] at h1
    | some g =>
      obtain ⟨t, a⟩ := g
      have key : ∀ os, os.length = asks r → ∃ sz, (isAg C.P t = some true ∧ tsz C.P t = some sz ∧ vs.length = sz ∧ IsImm I a sz vs) ∧ Runs C I st r os (behind S (.ag (vs.map .v)) S.heap) := by
        intro os hos
        obtain ⟨l, en, h1, h2⟩ := h os (by simpa [asks, Cmd.asks] using hos)
        simp only [run, hg, Option.bind_some] at h1
        split at h1
        · rename_i sz hag hsz
          cases hb : Nat.beq vs.length sz with
          | false => rw [hb] at h1; cases h1
          | true =>
            rw [hb] at h1
            simp only [Option.map_eq_some_iff] at h1
            obtain ⟨⟨l', e'⟩, hq, he⟩ := h1
            simp only [Prod.mk.injEq] at he
            obtain ⟨rfl, rfl⟩ := he
            exact ⟨sz, ⟨hag, hsz, Nat.eq_of_beq_eq_true hb, h2.1⟩, l', e', hq, h2.2⟩
        · cases h1
      obtain ⟨sz, ⟨k1, k2, k3, k4, cs, T, fz, k5, k6⟩, _⟩ := key (List.replicate (asks r) default) (by simp)
      exact WPs.loadImm hg k4 k5 k1 k2 k6 k3 (run_good st r fun os hos => (key os hos).choose_spec.2)
  | .canon keep sc :: r, S, h => by
    have key : ∀ (o : Orc) (os : List Orc), os.length = asks r → ∃ S', canonS keep sc o.j o.jc S = some S' ∧ (∀ n b, C.ρ0 n = some b → ∃ cs, keep[n]? = some (n, cs)) ∧ Runs C I st r os S' := by
      intro o os hos
      obtain ⟨l, en, h1, h2⟩ := h (o :: os) (by simp [asks, Cmd.asks, hos])
      simp only [run, Option.bind_eq_some_iff, Option.map_eq_some_iff] at h1
      obtain ⟨S', hS, ⟨l', e'⟩, hq, he⟩ := h1
      simp only [Prod.mk.injEq] at he
      obtain ⟨rfl, rfl⟩ := he
      exact ⟨S', hS, h2.1, l', e', hq, h2.2⟩
    have hex : ∀ j jc, ∃ S', canonS keep sc j jc S = some S' := fun j jc =>
      (key ⟨0, [], default, j, jc⟩ (List.replicate (asks r) default) (by simp)).imp fun _ h => h.1
    refine WPs.canon keep sc (S' := fun j jc => (hex j jc).choose) (fun j jc => (hex j jc).choose_spec) (key default (List.replicate (asks r) default) (by simp)).choose_spec.2.1 fun j jc => ?_
    refine run_good st r fun os hos => ?_
    obtain ⟨S', h1, _, h3⟩ := key ⟨0, [], default, j, jc⟩ os hos
    have : (hex j jc).choose = S' := Option.some.inj ((hex j jc).choose_spec.symm.trans h1)
    rw [this]
    exact h3

  | .imm1 v :: r, S, h => by
    cases hg : imm1At C.P S with
    | none =>
      obtain ⟨l, e, h1, h2⟩ := h (List.replicate (asks (.imm1 v :: r)) default) (by simp)
      simp [run, hg] at h1
    | some a =>
      have key : ∀ os, os.length = asks r → (a.spot = none ∧ ∃ cs T fz, I a.block = some (.cells cs T fz) ∧ cs[a.off]? = some v) ∧ Runs C I st r os (behind S (.v v) S.heap) := by
        intro os hos
        obtain ⟨l, en, h1, h2⟩ := h os (by simpa [asks, Cmd.asks] using hos)
        simp only [run, hg, Option.bind_some, Option.map_eq_some_iff] at h1
        obtain ⟨⟨l', e'⟩, hq, he⟩ := h1
        simp only [Prod.mk.injEq] at he
        obtain ⟨rfl, rfl⟩ := he
        exact ⟨h2.1, l', e', hq, h2.2⟩
      obtain ⟨k4, cs, T, fz, k5, k6⟩ := (key (List.replicate (asks r) default) (by simp)).1
      exact WPs.imm1 hg k4 k5 k6 (run_good st r fun os hos => (key os hos).2)
  | .mlen :: r, S, h => by
    cases hg : mlenAt C.P S with
    | none =>
      obtain ⟨l, e, h1, h2⟩ := h (List.replicate (asks (.mlen :: r)) default) (by simp)
      simp [run, hg] at h1
    | some y =>
      refine WPs.mlen hg (run_good st r fun os hos => ?_)
      obtain ⟨l, en, h1, h2⟩ := h os (by simpa [asks, Cmd.asks] using hos)
      simp only [run, hg, Option.bind_some] at h1
      exact ⟨l, en, h1, h2⟩
  | .app op :: r, S, h => by
    cases hg : appA C.P S with
    | none =>
      obtain ⟨l, e, h1, h2⟩ := h (List.replicate (asks (.app op :: r)) default) (by simp)
      simp [run, asks, Cmd.asks, List.replicate_succ, hg] at h1
    | some A =>
      have key : ∀ (o : Orc) (os : List Orc), os.length = asks r → (A.len ≤ A.cap ∧ A.total = A.cap * A.sz ∧ (A.len + A.k) * A.bytes ≤ 140737488355328 ∧ A.len + A.k ≤ 4611686018427387904) ∧
          (A.len + A.k ≤ o.n → (A.ks op).length + o.l.length = o.n * A.sz → Runs C I st r os (appS S A op o.n o.l)) := by
        intro o os hos
        obtain ⟨l, en, h1, h2⟩ := h (o :: os) (by simp [asks, Cmd.asks, hos])
        simp only [run, hg, Option.bind_some, Option.map_eq_some_iff] at h1
        obtain ⟨⟨l', e'⟩, hq, he⟩ := h1
        simp only [Prod.mk.injEq] at he
        obtain ⟨rfl, rfl⟩ := he
        exact ⟨h2.1, fun hn hm => ⟨l', e', hq, h2.2 hn hm⟩⟩
      obtain ⟨k1, k2, k3, k4⟩ := (key default (List.replicate (asks r) default) (by simp)).1
      refine WPs.append op hg k1 k2 k3 k4 fun cap' rest' hl hle => ?_
      exact run_good st r fun os hos => (key ⟨cap', rest', default, fun _ => default, fun _ _ => default⟩ os hos).2 hl hle

end

/-- What a run comes to, where that is a value. -/
def runV (r : Option (List Item × RE)) : Option (List Item × SV) :=
  match r with
  | some (l, .done x _) => some (l, x)
  | _ => none

theorem runV_of {r : Option (List Item × RE)} {l : List Item} {x : SV} (h : runV r = some (l, x)) : ∃ H, r = some (l, .done x H) := by
  unfold runV at h
  split at h
  · simp only [Option.some.injEq, Prod.mk.injEq] at h
    obtain ⟨rfl, rfl⟩ := h
    exact ⟨_, rfl⟩
  · cases h

/-- What is to be shown, without the equations that are plain. -/
def dropEq : List Item → Option (List Item)
  | [] => some []
  | .eq a b :: l => (match a == b with | true => dropEq l | false => none)
  | i :: l => (dropEq l).map fun m => i :: m

theorem dropEq_hold {C : Ctx} {I : Imm} {K : Prop} : ∀ {l m : List Item}, dropEq l = some m → hold C I m K → hold C I l K
  | [], m, h, k => by simp only [dropEq, Option.some.injEq] at h; subst h; exact k
  | .eq a b :: l, m, h, k => by
    simp only [dropEq] at h
    cases hab : a == b with
    | false => rw [hab] at h; cases h
    | true => rw [hab] at h; exact ⟨by simpa using hab, dropEq_hold h k⟩
  | .le _ _ :: l, m, h, k => by
    simp only [dropEq, Option.map_eq_some_iff] at h
    obtain ⟨m', h, rfl⟩ := h
    exact fun q => dropEq_hold h (k q)
  | .make _ _ _ _ _ _ _ :: l, m, h, k => by
    simp only [dropEq, Option.map_eq_some_iff] at h
    obtain ⟨m', h, rfl⟩ := h
    exact ⟨k.1, fun q q' => dropEq_hold h (k.2 q q')⟩
  | .call _ _ _ :: l, m, h, k => by
    simp only [dropEq, Option.map_eq_some_iff] at h
    obtain ⟨m', h, rfl⟩ := h
    exact ⟨k.1, dropEq_hold h k.2⟩
  | .ext _ _ _ :: l, m, h, k => by
    simp only [dropEq, Option.map_eq_some_iff] at h
    obtain ⟨m', h, rfl⟩ := h
    exact ⟨k.1, dropEq_hold h k.2⟩
  | .idx _ _ :: l, m, h, k => by
    simp only [dropEq, Option.map_eq_some_iff] at h
    obtain ⟨m', h, rfl⟩ := h
    exact ⟨k.1, dropEq_hold h k.2⟩
  | .imm _ _ _ :: l, m, h, k => by
    simp only [dropEq, Option.map_eq_some_iff] at h
    obtain ⟨m', h, rfl⟩ := h
    exact ⟨k.1, dropEq_hold h k.2⟩
  | .imm1 _ _ :: l, m, h, k => by
    simp only [dropEq, Option.map_eq_some_iff] at h
    obtain ⟨m', h, rfl⟩ := h
    exact ⟨k.1, dropEq_hold h k.2⟩
  | .app _ _ _ _ _ _ _ _ _ :: l, m, h, k => by
    simp only [dropEq, Option.map_eq_some_iff] at h
    obtain ⟨m', h, rfl⟩ := h
    exact ⟨k.1, fun q q' => dropEq_hold h (k.2 q q')⟩
  | .keep _ :: l, m, h, k => by
    simp only [dropEq, Option.map_eq_some_iff] at h
    obtain ⟨m', h, rfl⟩ := h
    exact ⟨k.1, dropEq_hold h k.2⟩

/-- What a closed run comes to. -/
def runD (r : Option (List Item × RE)) : Option (List Item × SV) := (runV r).bind fun q => (dropEq q.1).map fun l => (l, q.2)

theorem runD_of {r : Option (List Item × RE)} {l : List Item} {x : SV} (h : runD r = some (l, x)) : ∃ l' H, r = some (l', .done x H) ∧ dropEq l' = some l := by
  unfold runD at h
  simp only [Option.bind_eq_some_iff, Option.map_eq_some_iff, Prod.mk.injEq] at h
  obtain ⟨⟨l', x'⟩, h1, l2, h2, rfl, rfl⟩ := h
  obtain ⟨H, h3⟩ := runV_of h1
  exact ⟨l', H, h3, h2⟩

theorem orcs0 {os : List Orc} (h : os.length = 0) : os = [] := List.length_eq_zero_iff.1 h
theorem orcs_succ {os : List Orc} {n : Nat} (h : os.length = n + 1) : ∃ o os', os = o :: os' ∧ os'.length = n := by
  cases os with
  | nil => cases h
  | cons o os => exact ⟨o, os, rfl, by simpa using h⟩

end Go.Rl

namespace Go.Rl
open Go

/-- A state with another slot. -/
def putSl (S : SS) (t : Nat) (x : SV) : SS :=
  match S.frames with
  | [fr] => ⟨[{ fr with tmps := fr.tmps.set t x }], S.heap⟩
  | _ => S
/-- A state with another block. -/
def putBl (S : SS) (n : Nat) (o : SO) : SS := ⟨S.frames, S.heap.set n o⟩
def orSS : Option SS → SS
  | some S => S
  | none => ⟨[], []⟩
/-- Classes of slots: some are kept, some are kept as opaque, the others forgotten. -/
def classes (n : Nat) (keep opq : List Nat) : List Nat := (List.range n).map fun t => match keep.contains t with | true => 0 | false => (match opq.contains t with | true => 1 | false => 2)

/-- A way with no more to come. -/
theorem WPs.runs {C : Ctx} {I : Imm} {S : SS} (st : Stops) (cmds : List Cmd) (h : ∀ os, os.length = asks cmds → Runs C I st cmds os S) : WPs C I S := run_good st cmds h
end Go.Rl
