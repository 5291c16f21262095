/-
  What is appended: with room, or without: one rule.
-/
import Derived.Test.YtghmpcnchjjikaaGreatRlSra
set_option linter.all false
set_option linter.unusedVariables false
set_option linter.unusedSimpArgs false
set_option linter.unnecessarySimpa false
namespace Go.Rl
open Go

/-- How many cells an element has, if its zero value has so many. -/
def zsz (P : Program) (e : TypeId) : Option Nat :=
  (P.info? e).bind fun i => i.zero.bind fun z => match Nat.beq z.cells.size i.size with | true => some i.size | false => none

theorem zsz_spec {P : Program} {e sz : Nat} (h : zsz P e = some sz) : ∃ i z, P.info? e = some i ∧ i.zero = some z ∧ z.cells.size = i.size ∧ i.size = sz := by
  unfold zsz at h
  cases hi : P.info? e with
  | none => rw [hi] at h; cases h
  | some i =>
    rw [hi] at h
    simp only [Option.bind_some] at h
    cases hz : i.zero with
    | none => rw [hz] at h; cases h
    | some z =>
      rw [hz] at h
      simp only [Option.bind_some] at h
      cases hb : Nat.beq z.cells.size i.size with
      | false => rw [hb] at h; cases h
      | true =>
        rw [hb] at h
        simp only [Option.some.injEq] at h
        exact ⟨i, z, rfl, hz, Nat.eq_of_beq_eq_true hb, h⟩

/-- No load of a block is pending. -/
def clearAll (P : Program) (frames : List SFr) (n : Nat) : Bool := frames.all fun fr => (heldOf P fr).all fun q => !(Nat.beq q.1 n)

structure AppA where
  kill : Option Nat
  isOpen : Bool
  len : Nat
  cap : Nat
  olds : List SV
  total : Nat
  e : TypeId
  k : Nat
  sz : Nat
  news : List SV
  bytes : Nat

def appA (P : Program) (S : SS) : Option AppA :=
  (siteAt S).bind fun o => match o.op with
    | .call c => (match c.callee, c.args.toList, c.argTypes.toList with
      | .builtin .append, [a, b], [t, tx] =>
        (match P.underlying t, P.underlying tx with
        | some (.slice e), some (.slice _) =>
          (zsz P e).bind fun sz => (P.info? e).bind fun i => (sliceCells P S.heap e (sval (topTm S) b)).bind fun q =>
            (match news? q.1 q.2.2 with
            | true =>
              (match sval (topTm S) a with
              | .nsl => some ⟨none, false, 0, 0, [], 0, e, q.1, sz, q.2.2, i.bytes⟩
              | .sl n 0 len cap =>
                (match S.heap[n]? with
                | some (.row true ks rest T) => (match Nat.beq T e && (Nat.ble (len * sz) ks.length && clearAll P S.frames n) with
                  | true => some ⟨some n, false, len, cap, ks.take (len * sz), ks.length + rest.length, e, q.1, sz, q.2.2, i.bytes⟩
                  | false => none)
                | _ => none)
              | .so n 0 len cap _ =>
                (match S.heap[n]? with
                | some (.row true [] rest T) => (match Nat.beq T e && clearAll P S.frames n with
                  | true => some ⟨some n, true, len, cap, [], rest.length, e, q.1, sz, q.2.2, i.bytes⟩
                  | false => none)
                | _ => none)
              | _ => none)
            | false => none)
        | _, _ => none)
      | _, _, _ => none)
    | _ => none
where
  news? (k : Nat) (l : List SV) : Bool := Nat.blt 0 k && l.all oneS

def AppA.open (A : AppA) (op : Bool) : Bool := op || A.isOpen
def AppA.ks (A : AppA) (op : Bool) : List SV := match A.open op with | true => [] | false => A.olds ++ A.news
def AppA.val (A : AppA) (op : Bool) (n cap : Nat) : SV := match A.open op with | true => .so n 0 (A.len + A.k) cap 0 | false => .sl n 0 (A.len + A.k) cap
def killS (H : List SO) : Option Nat → List SO
  | some n => H.set n .dead
  | none => H
/-- The state behind an append. -/
def appS (S : SS) (A : AppA) (op : Bool) (cap : Nat) (rest : List Value) : SS :=
  behind S (A.val op S.heap.length cap) (killS S.heap A.kill ++ [.row true (A.ks op) rest A.e])

section
variable {C : Ctx} {I : Imm} {S : SS} {P : Program} {ρ : Rho} {H : List SO} {w : World}

theorem Holds.kill (h : Holds ρ H w) (n : Nat) : Holds ρ (H.set n .dead) w := by
  have hal : ∀ m, alive (H.set n .dead) m → alive H m ∧ m ≠ n := by
    rintro m ⟨o, hm, hne⟩
    rw [List.getElem?_set] at hm
    split at hm
    · split at hm
      · simp only [Option.some.injEq] at hm
        exact absurd hm.symm hne
      · cases hm
    · rename_i hn
      exact ⟨⟨o, hm, hne⟩, fun e => hn e.symm⟩
  have hget : ∀ (m : Nat) (o : SO), (H.set n .dead)[m]? = some o → o ≠ .dead → H[m]? = some o := by
    intro m o hm hne
    rw [List.getElem?_set] at hm
    split at hm
    · split at hm
      · simp only [Option.some.injEq] at hm; exact absurd hm.symm hne
      · cases hm
    · exact hm
  refine ⟨fun m live ks rest T hm => h.row m live ks rest T (hget m _ hm (by simp)), fun m o hm => h.obj m o (hget m _ hm (by simp)), fun m k b hm hk e1 e2 => h.inj m k b (hal m hm).1 (hal k hk).1 e1 e2, fun m b hb => ?_⟩
  have := h.lt m b hb
  exact ⟨by simpa using this.1, this.2⟩

/-- A block gets a new name, and other cells. -/
theorem Holds.rename (h : Holds ρ H w) {n b : Nat} {ks ks' : List SV} {rest rest' : List Value} {T : TypeId} {vs' : List Value} (hn : H[n]? = some (.row true ks rest T)) (hb : ρ n = some b)
    (hd : SV.denL ρ ks' = some vs') (w' : World) (hs : w'.heap.size = w.heap.size) (hw : w'.heap[b]? = some (.cells (vs' ++ rest').toArray T (0, 0))) (ho : ∀ k, k ≠ b → w'.heap[k]? = w.heap[k]?) :
    Holds (ρ.put H.length b) (H.set n .dead ++ [.row true ks' rest' T]) w' := by
  have hf := h.fresh
  have hle := Rho.le_put (b := b) hf
  have hlen : (H.set n .dead).length = H.length := by simp
  have hnl : n < H.length := (List.getElem?_eq_some_iff.1 hn).1
  have hput : ∀ m, m ≠ H.length → (ρ.put H.length b) m = ρ m := fun m hm => by simp [Rho.put, hm]
  have hself : (ρ.put H.length b) H.length = some b := by simp [Rho.put]
  have hget : ∀ (m : Nat) (o : SO), (H.set n .dead ++ [SO.row true ks' rest' T])[m]? = some o → o ≠ .dead → (m = H.length ∧ o = .row true ks' rest' T) ∨ (m < H.length ∧ m ≠ n ∧ H[m]? = some o) := by
    intro m o hm hne
    by_cases hml : m < H.length
    · rw [List.getElem?_append_left (by simpa using hml), List.getElem?_set] at hm
      split at hm
      · simp only [Option.some.injEq] at hm; exact absurd hm.symm hne
      · rename_i hmn
        exact .inr ⟨hml, fun e => hmn e.symm, hm⟩
    · rw [List.getElem?_append_right (by simpa using Nat.le_of_not_lt hml)] at hm
      simp only [List.length_set] at hm
      have : m - H.length = 0 := by
        have := (List.getElem?_eq_some_iff.1 hm).1
        simp at this
        omega
      rw [this] at hm
      simp only [List.getElem?_cons_zero, Option.some.injEq] at hm
      exact .inl ⟨by omega, hm.symm⟩
  have hother : ∀ (m : Nat) (o : SO), m ≠ n → H[m]? = some o → o ≠ .dead → ∀ b', ρ m = some b' → b' ≠ b := by
    intro m o hmn hm hne b' hb' e
    subst e
    exact hmn (h.inj m n b' ⟨o, hm, hne⟩ ⟨_, hn, by simp⟩ hb' hb)
  refine ⟨?_, ?_, ?_, ?_⟩
  · intro m live ks2 rest2 T2 hm
    rcases hget m _ hm (by simp) with ⟨rfl, he⟩ | ⟨hml, hmn, hm'⟩
    · simp only [SO.row.injEq] at he
      obtain ⟨rfl, rfl, rfl, rfl⟩ := he
      refine ⟨fun _ => ⟨b, hself⟩, fun b' hb' => ?_⟩
      rw [hself] at hb'; cases hb'
      exact ⟨vs', denL_mono hle hd, hw⟩
    · obtain ⟨h1, h2⟩ := h.row m live ks2 rest2 T2 hm'
      rw [hput m (by omega)]
      refine ⟨h1, fun b' hb' => ?_⟩
      obtain ⟨vs, hv, hc⟩ := h2 b' hb'
      exact ⟨vs, denL_mono hle hv, by rw [ho b' (hother m _ hmn hm' (by simp) b' hb')]; exact hc⟩
  · intro m o hm
    rcases hget m _ hm (by simp) with ⟨rfl, he⟩ | ⟨hml, hmn, hm'⟩
    · cases he
    · obtain ⟨b', hb', hc⟩ := h.obj m o hm'
      exact ⟨b', by rw [hput m (by omega)]; exact hb', by rw [ho b' (hother m _ hmn hm' (by simp) b' hb')]; exact hc⟩
  · rintro p q b' ⟨o, hp, hpn⟩ ⟨o', hq, hqn⟩ e1 e2
    rcases hget p o hp hpn with ⟨rfl, _⟩ | ⟨hpl, hpn', hp'⟩ <;> rcases hget q o' hq hqn with ⟨rfl, _⟩ | ⟨hql, hqn', hq'⟩
    · rfl
    · rw [hself] at e1; cases e1
      rw [hput q (by omega)] at e2
      exact absurd rfl (hother q o' hqn' hq' hqn b e2)
    · rw [hself] at e2; cases e2
      rw [hput p (by omega)] at e1
      exact absurd rfl (hother p o hpn' hp' hpn b e1)
    · rw [hput p (by omega)] at e1
      rw [hput q (by omega)] at e2
      exact h.inj p q b' ⟨o, hp', hpn⟩ ⟨o', hq', hqn⟩ e1 e2
  · intro m b' hb'
    by_cases hml : m = H.length
    · subst hml
      rw [hself] at hb'; cases hb'
      exact ⟨by simp, by rw [hs]; exact (h.lt n b hb).2⟩
    · rw [hput m hml] at hb'
      have := h.lt m b' hb'
      exact ⟨by simp; omega, by rw [hs]; exact this.2⟩

theorem Keeps.kill {n : Nat} {ks : List SV} {rest : List Value} {T : TypeId} (hn : H[n]? = some (.row true ks rest T)) (x : SO) (c : SFr) (hc : (heldOf P c).all (fun q => !(Nat.beq q.1 n)) = true) : Keeps P H (H.set n .dead ++ [x]) c := by
  have hget : ∀ m, m ≠ n → m < H.length → (H.set n .dead ++ [x])[m]? = H[m]? := by
    intro m hm hl
    rw [List.getElem?_append_left (by simpa using hl), List.getElem?_set_ne (Ne.symm hm)]
  refine ⟨fun ar har u hu o t a m off y ho hop ha hl => ?_, fun m _ ks' T' hr => ?_⟩
  · have hml : m < H.length := by
      unfold sload at hl
      cases h1 : isAg P t with
      | none => simp [h1] at hl
      | some ag =>
        cases h2 : tsz P t with
        | none => simp [h1, h2] at hl
        | some sz =>
          cases h3 : H[m]? with
          | none => simp [h1, h2, h3] at hl
          | some q => exact (List.getElem?_eq_some_iff.1 h3).1
    have hmn : m ≠ n := by
      intro e
      subst e
      obtain ⟨sz, hz⟩ : ∃ sz, tsz P t = some sz := by
        unfold sload at hl
        cases h1 : isAg P t with
        | none => simp [h1] at hl
        | some ag =>
          cases h2 : tsz P t with
          | none => simp [h1, h2] at hl
          | some sz => exact ⟨sz, rfl⟩
      have hmem : (m, off, sz) ∈ heldOf P c := by
        unfold heldOf
        rw [har]
        refine List.mem_filterMap.2 ⟨u, hu, ?_⟩
        simp [ho, hop, ha, hz]
      have := List.all_eq_true.1 hc _ hmem
      simp at this
    have : sload P (H.set n .dead ++ [x]) t m off = sload P H t m off := by
      unfold sload
      rw [hget m hmn hml]
    rw [this]; exact hl
  · have hmn : m ≠ n := by intro e; subst e; rw [hn] at hr; cases hr
    rw [hget m hmn (List.getElem?_eq_some_iff.1 hr).1]; exact hr

/-- What 'appA' says. -/
theorem appA_spec {A : AppA} (h : appA C.P S = some A) :
    ∃ o c a b t tx e' z it cap2, siteAt S = some o ∧ o.op = .call c ∧ c = { callee := .builtin .append, args := #[a, b], argTypes := #[t, tx] } ∧
      C.P.underlying t = some (.slice A.e) ∧ C.P.underlying tx = some (.slice e') ∧
      sliceCells C.P S.heap A.e (sval (topTm S) b) = some (A.k, cap2, A.news) ∧ C.P.info? A.e = some it ∧ it.zero = some z ∧ z.cells.size = it.size ∧ it.size = A.sz ∧ it.bytes = A.bytes ∧ 0 < A.k ∧ A.news.all oneS = true ∧
      ((sval (topTm S) a = .nsl ∧ A.kill = none ∧ A.isOpen = false ∧ A.len = 0 ∧ A.cap = 0 ∧ A.olds = [] ∧ A.total = 0) ∨
        ∃ n ks rest, A.kill = some n ∧ S.heap[n]? = some (.row true ks rest A.e) ∧ clearAll C.P S.frames n = true ∧ A.total = ks.length + rest.length ∧
          ((sval (topTm S) a = .sl n 0 A.len A.cap ∧ A.isOpen = false ∧ A.len * A.sz ≤ ks.length ∧ A.olds = ks.take (A.len * A.sz)) ∨
            (∃ lo, sval (topTm S) a = .so n 0 A.len A.cap lo) ∧ A.isOpen = true ∧ ks = [] ∧ A.olds = [])) := by
  unfold appA at h
  cases hs : siteAt S with
  | none => rw [hs] at h; cases h
  | some o =>
    rw [hs] at h
    simp only [Option.bind_some] at h
    split at h
    case h_2 => cases h
    case h_1 c hop =>
      split at h
      case h_2 => cases h
      case h_1 a b t tx hcal hargs hts =>
        split at h
        case h_2 => cases h
        case h_1 e e' hu hux =>
          cases hz : zsz C.P e with
          | none => rw [hz] at h; cases h
          | some sz =>
            obtain ⟨it, z, hi, hzz, hzs, hsz⟩ := zsz_spec hz
            cases hb : sliceCells C.P S.heap e (sval (topTm S) b) with
            | none => rw [hz, hi, hb] at h; cases h
            | some q =>
              obtain ⟨k, cap2, news⟩ := q
              rw [hz, hi, hb] at h
              simp only [Option.bind_some] at h
              split at h
              case h_2 => cases h
              case h_1 hnw =>
                simp only [appA.news?, Bool.and_eq_true] at hnw
                have hk : 0 < k := by simpa [Nat.blt_eq] using hnw.1
                have h1 : c.argTypes = #[t, tx] := by rw [← Array.toArray_toList (xs := c.argTypes), hts]
                have h2 : c.args = #[a, b] := by rw [← Array.toArray_toList (xs := c.args), hargs]
                have hc : c = { callee := .builtin .append, args := #[a, b], argTypes := #[t, tx] } := by
                  cases c; simp only at hcal h1 h2; subst hcal h1 h2; rfl
                split at h
                · rename_i ha
                  simp only [Option.some.injEq] at h
                  subst h
                  exact ⟨o, c, a, b, t, tx, e', z, it, cap2, rfl, hop, hc, hu, hux, hb, hi, hzz, hzs, hsz, rfl, hk, hnw.2, .inl ⟨ha, rfl, rfl, rfl, rfl, rfl, rfl⟩⟩
                · rename_i n len cap ha
                  split at h
                  case h_2 => cases h
                  case h_1 ks rest T hn =>
                    split at h
                    case h_2 => cases h
                    case h_1 hcond =>
                      simp only [Bool.and_eq_true] at hcond
                      have hT := Nat.eq_of_beq_eq_true hcond.1
                      subst hT
                      simp only [Option.some.injEq] at h
                      subst h
                      exact ⟨o, c, a, b, t, tx, e', z, it, cap2, rfl, hop, hc, hu, hux, hb, hi, hzz, hzs, hsz, rfl, hk, hnw.2, .inr ⟨n, ks, rest, rfl, hn, hcond.2.2, rfl, .inl ⟨ha, rfl, Nat.le_of_ble_eq_true hcond.2.1, rfl⟩⟩⟩
                · rename_i n len cap lo ha
                  split at h
                  case h_2 => cases h
                  case h_1 rest T hn =>
                    split at h
                    case h_2 => cases h
                    case h_1 hcond =>
                      simp only [Bool.and_eq_true] at hcond
                      have hT := Nat.eq_of_beq_eq_true hcond.1
                      subst hT
                      simp only [Option.some.injEq] at h
                      subst h
                      exact ⟨o, c, a, b, t, tx, e', z, it, cap2, rfl, hop, hc, hu, hux, hb, hi, hzz, hzs, hsz, rfl, hk, hnw.2, .inr ⟨n, [], rest, rfl, hn, hcond.2, by simp, .inr ⟨⟨lo, ha⟩, rfl, rfl, rfl⟩⟩⟩
                · cases h

theorem WPs.append {A : AppA} (op : Bool) (h : appA C.P S = some A) (h1 : A.len ≤ A.cap) (h2 : A.total = A.cap * A.sz) (h3 : (A.len + A.k) * A.bytes ≤ 140737488355328) (h4 : A.len + A.k ≤ 4611686018427387904)
    (g : ∀ cap' rest', A.len + A.k ≤ cap' → (A.ks op).length + rest'.length = cap' * A.sz → WPs C I (appS S A op cap' rest')) : WPs C I S := by
  obtain ⟨o, c, a, b, t, tx, e', z, it, cap2, hs, hop, hc, hu, hux, hb, hi, hz, hzs, hsz, hby, hk, hone, hcase⟩ := appA_spec h
  refine WPs.op hs (R := fun x H' I' => ∃ cap' rest', A.len + A.k ≤ cap' ∧ (A.ks op).length + rest'.length = cap' * A.sz ∧ x = A.val op S.heap.length cap' ∧ H' = killS S.heap A.kill ++ [.row true (A.ks op) rest' A.e] ∧ I' = I) ?_ ?_
  · intro ρ w r hH hI hden
    have hda := hden a (by rw [hop, hc]; simp [Op.operands, Call.operands])
    have hdb := hden b (by rw [hop, hc]; simp [Op.operands, Call.operands])
    have htsz : tsz C.P A.e = some A.sz := by simp [tsz, hi, hsz]
    obtain ⟨base2, vn, hvb, hdn, hln, hrn⟩ := sliceCells_run hH hb hdb htsz
    have h1c := oneS_cell hone hdn
    -- the old cells
    obtain ⟨base, vo, hva, hlo, hfo, hdo⟩ : ∃ base vo, r a = .slice base A.len A.cap ∧ vo.length = A.len * A.sz ∧
        (∀ w' : World, w'.heap = w.heap → (Builtin.firstCells A.sz A.len (.slice base A.len A.cap)).run C.P w' = .ok vo.toArray w') ∧ (A.isOpen = false → SV.denL ρ A.olds = some vo) := by
      rcases hcase with ⟨ha, _, ho, hl, hcp, hol, _⟩ | ⟨n, ks, rest, _, hn, _, htot, ⟨ha, ho, hle, hol⟩ | ⟨⟨lo, ha⟩, ho, hks, hol⟩⟩
      · rw [ha] at hda
        simp only [SV.den, Option.some.injEq] at hda
        exact ⟨none, [], by rw [← hda, hl, hcp], by simp [hl], fun w' _ => by rw [hl]; simp [Builtin.firstCells], fun _ => by rw [hol]; rfl⟩
      · rw [ha] at hda
        simp only [SV.den, Option.map_eq_some_iff] at hda
        obtain ⟨g0, hg0, hva⟩ := hda
        obtain ⟨vs0, hd0, hrow⟩ := (hH.row _ _ _ _ _ hn).2 g0 hg0
        have hlen := denL_length hd0
        refine ⟨some ⟨g0, 0, none⟩, vs0.take (A.len * A.sz), hva.symm, by simp; omega, fun w' hw => ?_, fun _ => by rw [hol]; exact denL_take _ hd0⟩
        refine run_firstCells_some w' A.sz A.len ⟨g0, 0, none⟩ A.len A.cap _ (by simp; omega) fun j v hj => ?_
        rw [add_off, cell_row (c := vs0 ++ rest) (by rw [hw]; exact hrow)]
        rw [List.getElem?_take] at hj
        split at hj
        · rw [Nat.zero_add, List.getElem?_append_left (by omega)]; exact hj
        · cases hj
      · rw [ha] at hda
        simp only [SV.den] at hda
        split at hda
        case isFalse => cases hda
        case isTrue hlo =>
          simp only [Option.map_eq_some_iff] at hda
          obtain ⟨g0, hg0, hva⟩ := hda
          subst hks
          obtain ⟨vs0, hd0, hrow⟩ := (hH.row _ _ _ _ _ hn).2 g0 hg0
          simp only [SV.denL, Option.some.injEq] at hd0
          subst hd0
          simp only [List.nil_append] at hrow
          have hle : A.len * A.sz ≤ rest.length := by
            have := Nat.mul_le_mul_right A.sz h1
            simp only [List.length_nil, Nat.zero_add] at htot
            omega
          refine ⟨some ⟨g0, 0, none⟩, rest.take (A.len * A.sz), hva.symm, by simp; omega, fun w' hw => ?_, fun hf => by rw [ho] at hf; cases hf⟩
          refine run_firstCells_some w' A.sz A.len ⟨g0, 0, none⟩ A.len A.cap _ (by simp; omega) fun j v hj => ?_
          rw [add_off, cell_row (c := rest) (by rw [hw]; exact hrow)]
          rw [List.getElem?_take] at hj
          split at hj
          · simpa using hj
          · cases hj
    by_cases hroom : A.len + A.k ≤ A.cap
    · -- room
      rcases hcase with ⟨ha, _, ho, hl, hcp, hol, _⟩ | ⟨n, ks, rest, hkill, hn, hclr, htot, hcase⟩
      · omega
      · obtain ⟨g0, hg0, hva2⟩ : ∃ g0, ρ n = some g0 ∧ r a = .slice (some ⟨g0, 0, none⟩) A.len A.cap := by
          rcases hcase with ⟨ha, _, _, _⟩ | ⟨⟨lo, ha⟩, _, _, _⟩
          · rw [ha] at hda
            simp only [SV.den, Option.map_eq_some_iff] at hda
            obtain ⟨g0, hg0, hv⟩ := hda
            exact ⟨g0, hg0, hv.symm⟩
          · rw [ha] at hda
            simp only [SV.den] at hda
            split at hda
            case isFalse => cases hda
            case isTrue hlo =>
              simp only [Option.map_eq_some_iff] at hda
              obtain ⟨g0, hg0, hv⟩ := hda
              exact ⟨g0, hg0, hv.symm⟩
        obtain ⟨vs0, hd0, hrow⟩ := (hH.row _ _ _ _ _ hn).2 g0 hg0
        have hlen0 := denL_length hd0
        have hcl : (vs0 ++ rest).length = A.cap * A.sz := by simp; omega
        have hfit2 : A.len * A.sz + vn.length ≤ (vs0 ++ rest).length := by rw [hcl, hln, ← Nat.add_mul]; exact Nat.mul_le_mul_right _ hroom
        have hvo : vo = (vs0 ++ rest).take (A.len * A.sz) := by
          have e1 := hfo w rfl
          rw [hva] at hva2
          simp only [Value.slice.injEq, and_true] at hva2
          rw [hva2] at e1
          have e2 := run_firstCells_some (P := C.P) w A.sz A.len ⟨g0, 0, none⟩ A.len A.cap ((vs0 ++ rest).take (A.len * A.sz)) (by simp; simp at hfit2; omega) (fun j v hj => by
            rw [add_off, cell_row (c := vs0 ++ rest) hrow]
            rw [List.getElem?_take] at hj
            split at hj
            · simpa using hj
            · cases hj)
          rw [e1] at e2
          simp only [Result.ok.injEq, and_true] at e2
          simpa using congrArg Array.toList e2
        have hst := run_storeCells_at C.P g0 (A.len * A.sz) A.e vn 0 (vs0 ++ rest).toArray w hrow (by simpa using hfit2) h1c
        simp only [Nat.add_zero, List.toList_toArray] at hst
        have hrun : (Builtin.append_ #[t, tx] o.type #[r a, r b]).run C.P w = .ok (.slice (some ⟨g0, 0, none⟩) (A.len + A.k) A.cap) (w.setRow g0 ((vs0 ++ rest).take (A.len * A.sz) ++ vn ++ (vs0 ++ rest).drop (A.len * A.sz + vn.length)).toArray) := by
          rw [hva2, hvb]
          have hf := hrn w rfl
          rw [hvb] at hf
          simp [Builtin.append_, run_underlying hu, run_underlying hux, sizeOf, typeInfo, hi, hsz, Builtin.lenOf, hroom, hf, Addr.add_lit, hst]
        let cells' : List Value := (vs0 ++ rest).take (A.len * A.sz) ++ vn ++ (vs0 ++ rest).drop (A.len * A.sz + vn.length)
        have hother : ∀ k, k ≠ g0 → (w.setRow g0 cells'.toArray).heap[k]? = w.heap[k]? := fun k hk => setRow_other w g0 k _ hk
        have hsize : (w.setRow g0 cells'.toArray).heap.size = w.heap.size := by simp [World.setRow]
        have hself : (w.setRow g0 cells'.toArray).heap[g0]? = some (.cells cells'.toArray A.e (0, 0)) := setRow_heap w g0 _ _ _ _ hrow
        have hle := Rho.le_put (b := g0) hH.fresh
        have hmv : Moves ρ (ρ.put S.heap.length g0) w (w.setRow g0 cells'.toArray) :=
          ⟨rfl, rfl, rfl, by rw [hsize]; exact Nat.le_refl _, fun k _ hk => hother k fun e => hk n (e ▸ hg0), hle, fun m b' hb' => by
            unfold Rho.put at hb'
            split at hb'
            · cases hb'; exact .inl ⟨n, hg0⟩
            · exact .inl ⟨m, hb'⟩⟩
        have hcells' : cells'.length = A.cap * A.sz := by
          show ((vs0 ++ rest).take (A.len * A.sz) ++ vn ++ (vs0 ++ rest).drop (A.len * A.sz + vn.length)).length = _
          rw [List.length_append, List.length_append, List.length_take, List.length_drop, hcl]
          rw [hcl] at hfit2
          omega
        obtain ⟨vks, rest', hdk, hsum, hcc⟩ : ∃ vks rest', SV.denL ρ (A.ks op) = some vks ∧ (A.ks op).length + rest'.length = A.cap * A.sz ∧ cells' = vks ++ rest' := by
          unfold AppA.ks
          cases hop2 : A.open op with
          | true => exact ⟨[], cells', rfl, by simpa using hcells', rfl⟩
          | false =>
            have hio : A.isOpen = false := by unfold AppA.open at hop2; simp at hop2; exact hop2.2
            refine ⟨vo ++ vn, (vs0 ++ rest).drop (A.len * A.sz + vn.length), denL_append (hdo hio) hdn, ?_, by rw [hvo]⟩
            have e1 := denL_length (hdo hio)
            have e2 := denL_length hdn
            simp only [List.length_append, List.length_drop]
            rw [hlo] at e1
            simp only [List.length_append] at hcl hfit2
            omega
        refine ⟨A.val op S.heap.length A.cap, .slice (some ⟨g0, 0, none⟩) (A.len + A.k) A.cap, ρ.put S.heap.length g0, _, _, I, .inl ?_, ?_, ?_, hmv, hI.moves hmv, fun c2 hc2 => ⟨?_, fun m hm hl => by simp [Rho.put]; omega⟩, A.cap, rest', hroom, hsum, rfl, rfl, rfl⟩
        · simp [execOp, hop, hc, resolve, invoke, builtin, hrun, cells']
        · unfold AppA.val
          cases A.open op <;> simp [SV.den, Rho.put]
        · rw [hkill]
          exact Holds.rename hH hn hg0 hdk _ hsize (by rw [hself, hcc]) hother
        · rw [hkill]
          exact Keeps.kill hn _ c2 (List.all_eq_true.1 hclr c2 hc2)
    · -- none
      have hno : A.cap < A.len + A.k := by omega
      have hgrow := run_append_grow_cells (P := C.P) w t tx o.type A.e it z hu hux hi hz base A.len A.cap vo (by rw [hsz]; exact hfo w.drew rfl) (r b) A.k vn (fun w' => by rw [hvb]; rfl) (by rw [hsz]; exact hrn w.drew rfl) hno (by omega)
        (by rw [hby]; exact growslice_fits hno h3)
      rw [← hva] at hgrow
      let cells' : List Value := (vo ++ vn) ++ (Builtin.zeroCells z.cells (grownCap w (A.len + A.k) A.cap A.e - (A.len + A.k))).toList
      have hmv : Moves ρ (ρ.put S.heap.length w.heap.size) w (w.drew.alloc (.cells cells'.toArray A.e (0, 0))) := (Moves.drew (ρ := ρ) (w := w)).trans (Moves.alloc (w := w.drew) hH.drew _)
      have hge := grownCap_ge w (A.len + A.k) A.cap A.e
      have hzl : z.cells.size = A.sz := by rw [hzs, hsz]
      have hcells' : cells'.length = grownCap w (A.len + A.k) A.cap A.e * A.sz := by
        show ((vo ++ vn) ++ (Builtin.zeroCells z.cells (grownCap w (A.len + A.k) A.cap A.e - (A.len + A.k))).toList).length = _
        simp only [List.length_append, Array.length_toList, size_zeroCells, hzl, hlo, hln]
        rw [← Nat.add_mul, ← Nat.add_mul]
        congr 1
        omega
      obtain ⟨vks, rest', hdk, hsum, hcc⟩ : ∃ vks rest', SV.denL ρ (A.ks op) = some vks ∧ (A.ks op).length + rest'.length = grownCap w (A.len + A.k) A.cap A.e * A.sz ∧ cells' = vks ++ rest' := by
        unfold AppA.ks
        cases hop2 : A.open op with
        | true => exact ⟨[], cells', rfl, by simpa using hcells', rfl⟩
        | false =>
          have hio : A.isOpen = false := by unfold AppA.open at hop2; simp at hop2; exact hop2.2
          refine ⟨vo ++ vn, _, denL_append (hdo hio) hdn, ?_, rfl⟩
          have e1 := denL_length (hdo hio)
          have e2 := denL_length hdn
          rw [← hcells']
          show _ = ((vo ++ vn) ++ _).length
          simp only [List.length_append]
          omega
      have hkl : (killS S.heap A.kill).length = S.heap.length := by cases A.kill <;> simp [killS]
      have hHk : Holds ρ (killS S.heap A.kill) w := by
        cases A.kill with
        | none => exact hH
        | some n => exact hH.kill n
      have hHn := hHk.drew.new (w := w.drew) (rest := rest') (T := A.e) hdk
      rw [hkl, ← hcc] at hHn
      refine ⟨A.val op S.heap.length (grownCap w (A.len + A.k) A.cap A.e), .slice (some ⟨w.heap.size, 0, none⟩) (A.len + A.k) (grownCap w (A.len + A.k) A.cap A.e), ρ.put S.heap.length w.heap.size, _, _, I, .inl ?_, ?_, hHn, hmv, hI.moves hmv,
        fun c2 hc2 => ⟨?_, fun m hm hl => by simp [Rho.put]; omega⟩, _, rest', hge, hsum, rfl, rfl, rfl⟩
      · simp [execOp, hop, hc, resolve, invoke, builtin, hgrow, cells']
      · unfold AppA.val
        cases A.open op <;> simp [SV.den, Rho.put]
      · rcases hcase with ⟨_, hkill, _⟩ | ⟨n, ks, rest, hkill, hn, hclr, _⟩
        · rw [hkill]; exact Keeps.append _ c2
        · rw [hkill]; exact Keeps.kill hn _ c2 (List.all_eq_true.1 hclr c2 hc2)
  · rintro x H' I' ⟨cap', rest', hle, hl, rfl, rfl, rfl⟩
    exact g cap' rest' hle hl

end
end Go.Rl
