/-
  Maps of numbers to numbers: what the symbolic operations say is what the operations do.
-/
import Derived.Test.YtghmpcnchjjikaaGreatRlSv5
set_option linter.all false
set_option linter.unusedVariables false
set_option linter.unusedSimpArgs false
set_option linter.unnecessarySimpa false
namespace Go.Rl
open Go

theorem im_find (q0 q qv : IntKind) (a : Int) : ∀ (l : List (Int × Int × Nat)) (i : Nat),
    Instr.findNow (.int q0) (.int q a) (l.map (ient q qv)) i = some ((imFind a l i).map fun p => (p.1, Value.int qv p.2))
  | [], _ => rfl
  | e :: r, i => by
    simp only [List.map_cons, Instr.findNow, imFind]
    have : Instr.sameNow (.int q0) (.int q a) (ient q qv e).key = some (a == e.1) := by simp [ient, Instr.sameNow]
    rw [this]
    cases h : a == e.1
    · exact im_find q0 q qv a r (i + 1)
    · rfl

theorem imFind_spec {a : Int} : ∀ {l : List (Int × Int × Nat)} {i k : Nat} {x : Int}, imFind a l i = some (k, x) → ∃ d e, k = i + d ∧ l[d]? = some e ∧ e.1 = a ∧ e.2.1 = x
  | [], _, _, _, h => by cases h
  | e :: r, i, k, x, h => by
    simp only [imFind] at h
    split at h
    · rename_i he
      simp only [Option.some.injEq, Prod.mk.injEq] at h
      exact ⟨0, e, by omega, rfl, (eq_of_beq he).symm, h.2⟩
    · obtain ⟨d, e', h1, h2, h3⟩ := imFind_spec h
      exact ⟨d + 1, e', by omega, by simpa using h2, h3⟩

def setB (w : World) (b : Nat) (o : Obj) : World := { w with heap := w.heap.setIfInBounds b o }

section
variable {P : Program} {ρ : Rho} {H : List SO} {w : World}

theorem run_getMap {b : Nat} {es : Array MapEntry} {c : Nat} (h : w.heap[b]? = some (.map es c)) : (getObj b).run P w = .ok (.map es c) w := by
  simp [getObj, Sem.run, h]

theorem run_setMap {b : Nat} {es : Array MapEntry} {c : Nat} (h : w.heap[b]? = some (.map es c)) (o : Obj) : (setObj b o).run P w = .ok () (setB w b o) := by
  simp [setObj, Sem.run, h, setB]

theorem run_checkInt {kt : Nat} {q0 q : IntKind} (hk : P.underlying kt = some (.int q0)) (e : Bool) (a : Int) (w : World) : (Instr.checkKey e 10000 kt (.int q a)).run P w = .ok () w := by
  have h : ∀ n, (Instr.checkKey e (n + 1) kt (.int q a)).run P w = .ok () w := fun n => by
    simp only [Instr.checkKey, Sem.run_bind, run_und hk, Result.andThen_ok, Sem.run_pure]
  exact h 9999

theorem run_findInt {kt : Nat} {q0 q qv : IntKind} (hk : P.underlying kt = some (.int q0)) (a : Int) (l : List (Int × Int × Nat)) (w : World) :
    (Instr.findKey kt (.int q a) (l.map (ient q qv))).run P w = .ok ((imFind a l 0).map fun p => (p.1, Value.int qv p.2)) w := by
  simp only [Instr.findKey, Sem.run_bind, run_und hk, Result.andThen_ok, im_find, Sem.run_pure]

theorem sint_den {x : SV} {k : IntKind} {n : Int} {v : Value} (h : sint x = some (k, n)) (hd : x.den ρ = some v) : v = .int k n := by
  unfold sint at h
  split at h <;> simp only [Option.some.injEq, Prod.mk.injEq, reduceCtorEq] at h <;> simp only [SV.den, Option.some.injEq] at hd <;> obtain ⟨rfl, rfl⟩ := h <;> exact hd.symm

theorem imOf_spec {t : Nat} {m : SV} {n c : Nat} {q qv : IntKind} {l : List (Int × Int × Nat)} {v : Value} (h : imOf P H t m = some (n, q, qv, l, c)) (hH : Holds ρ H w) (hd : m.den ρ = some v) :
    ∃ kt et b, P.underlying t = some (.map kt et) ∧ P.underlying kt = some (.int q) ∧ ρ n = some b ∧ v = .map (some b) ∧ w.heap[b]? = some (.map (l.map (ient q qv)).toArray c) ∧
      (∀ w : World, (zeroValue et).run P w = .ok (.int qv 0) w) ∧ m = .mp n ∧ H[n]? = some (.obj (.im q qv l c)) := by
  unfold imOf at h
  split at h
  case h_2 => cases h
  case h_1 kt et n' hu =>
    split at h
    case h_2 => cases h
    case h_1 q1 qv1 l1 c1 hn =>
      split at h
      case h_2 => cases h
      case h_1 q' qv' qz hk he hz =>
        split at h
        case isFalse => cases h
        case isTrue hq =>
          obtain ⟨rfl, rfl, rfl⟩ := hq
          simp only [Option.some.injEq, Prod.mk.injEq] at h
          obtain ⟨rfl, rfl, rfl, rfl, rfl⟩ := h
          obtain ⟨b, hb, hc⟩ := hH.obj _ _ hn
          simp only [SV.den, hb, Option.map_some, Option.some.injEq] at hd
          refine ⟨kt, et, b, hu, hk, hb, hd.symm, hc, fun w => ?_, rfl, hn⟩
          obtain ⟨zv, hzr, hzd, _⟩ := run_zero (ρ := ρ) hz w
          simp only [SV.den, Option.some.injEq] at hzd
          rw [hzr, ← hzd]

theorem slookup_run {t : Nat} {m k y : SV} {ok : Bool} {v u : Value} (h : slookup P H t m k ok = some y) (hH : Holds ρ H w) (hm : m.den ρ = some v) (hk : k.den ρ = some u) :
    ∃ z, (Instr.lookup t v u ok).run P w = .ok z w ∧ y.den ρ = some z := by
  unfold slookup at h
  split at h
  case h_2 => cases h
  case h_1 n q qv l c q' a hi hs =>
    split at h
    case isFalse => cases h
    case isTrue hq =>
      subst hq
      simp only [Option.some.injEq] at h
      subst h
      obtain ⟨kt, et, b, h1, h2, h3, rfl, h5, h6, _⟩ := imOf_spec hi hH hm
      rw [sint_den hs hk]
      have hz := h6 w
      simp only [Instr.lookup, Sem.run_bind, run_und h1, Result.andThen_ok, run_getMap h5, Sem.run_pure, run_checkInt h2, run_findInt h2, List.toList_toArray]
      cases hf : imFind a l 0 with
      | none => cases ok <;> simp [hz, imGet, imHas, hf, SV.den, SV.denL]
      | some p => cases ok <;> simp [imGet, imHas, hf, SV.den, SV.denL]

/-- An object is another one. -/
theorem Holds.setObj (h : Holds ρ H w) {n b : Nat} {o o' : SOb} (hn : H[n]? = some (.obj o)) (hb : ρ n = some b) : Holds ρ (H.set n (.obj o')) (setB w b o'.obj) := by
  have hlt := (h.lt n b hb).2
  have hal : ∀ m, alive (H.set n (.obj o')) m → alive H m := by
    rintro m ⟨q, hm, hne⟩
    rw [List.getElem?_set] at hm
    split at hm
    · rename_i e; subst e; exact ⟨_, hn, by simp⟩
    · exact ⟨q, hm, hne⟩
  have haln : alive H n := ⟨_, hn, by simp⟩
  have hother : ∀ k, k ≠ b → (setB w b o'.obj).heap[k]? = w.heap[k]? := fun k hk => by simp [setB, Array.getElem?_setIfInBounds_ne (Ne.symm hk)]
  refine ⟨fun m live ks rest T hm => ?_, fun m q hm => ?_, fun a c x ha hc h1 h2 => h.inj a c x (hal a ha) (hal c hc) h1 h2, fun m c hc => ?_⟩
  · rw [List.getElem?_set] at hm
    split at hm
    · split at hm <;> cases hm
    · rename_i hne
      obtain ⟨h1, h2⟩ := h.row m _ _ _ _ hm
      refine ⟨h1, fun c hc => ?_⟩
      obtain ⟨us, hu, hcell⟩ := h2 c hc
      refine ⟨us, hu, ?_⟩
      rw [hother c fun e => ?_]; exact hcell
      subst e
      exact hne (h.inj n m c haln ⟨_, hm, by simp⟩ hb hc)
  · rw [List.getElem?_set] at hm
    split at hm
    · rename_i e; subst e
      have hl := h.lt_len hb
      simp only [hl, if_true, Option.some.injEq, SO.obj.injEq] at hm
      subst hm
      exact ⟨b, hb, by simp [setB, hlt]⟩
    · rename_i hne
      obtain ⟨c, hc, hcell⟩ := h.obj m q hm
      refine ⟨c, hc, ?_⟩
      rw [hother c fun e => ?_]; exact hcell
      subst e
      exact hne (h.inj n m c haln ⟨_, hm, by simp⟩ hb hc)
  · have := h.lt m c hc
    simpa [setB] using this

theorem Moves.setB {n b : Nat} (hb : ρ n = some b) (o : Obj) : Moves ρ ρ w (setB w b o) :=
  ⟨rfl, rfl, rfl, by simp [Rl.setB], fun k _ hk => by
    have : k ≠ b := fun e => hk n (e ▸ hb)
    simp [Rl.setB, Array.getElem?_setIfInBounds_ne (Ne.symm this)], Rho.le_refl ρ, fun _ _ h => .inl ⟨_, h⟩⟩

theorem map_modify {α β : Type} (g : α → β) (f : α → α) (f' : β → β) (h : ∀ x, g (f x) = f' (g x)) : ∀ (l : List α) (i : Nat), (l.modify i f).map g = (l.map g).modify i f'
  | [], i => by simp
  | x :: r, 0 => by simp [h]
  | x :: r, i + 1 => by simp [map_modify g f f' h r i]

theorem map_eraseIdx {α β : Type} (g : α → β) : ∀ (l : List α) (i : Nat), (l.map g).eraseIdx i = (l.eraseIdx i).map g
  | [], i => by simp
  | x :: r, 0 => by simp
  | x :: r, i + 1 => by simp [map_eraseIdx g r i]

theorem smapPut_run {t : Nat} {m k x : SV} {v u y : Value} {n : Nat} {o : SOb} (h : smapPut P H t m k x = some (n, o)) (hH : Holds ρ H w) (hm : m.den ρ = some v) (hk : k.den ρ = some u) (hx : x.den ρ = some y) :
    ∃ b, ρ n = some b ∧ (Instr.mapUpdate t v u y).run P w = .ok () (setB w b o.obj) := by
  unfold smapPut at h
  split at h
  case h_2 => cases h
  case h_1 n' q qv l c q' a qv' vv hi hs hsx =>
    split at h
    case isFalse => cases h
    case isTrue hq =>
      obtain ⟨rfl, rfl⟩ := hq
      simp only [Option.some.injEq, Prod.mk.injEq] at h
      obtain ⟨rfl, rfl⟩ := h
      obtain ⟨kt, et, b, h1, h2, h3, rfl, h5, h6, _⟩ := imOf_spec hi hH hm
      rw [sint_den hs hk, sint_den hsx hx]
      refine ⟨b, h3, ?_⟩
      simp only [Instr.mapUpdate, Sem.run_bind, run_und h1, Result.andThen_ok, run_getMap h5, run_checkInt h2, run_findInt h2]
      cases hf : imFind a l 0 with
      | none =>
        simp only [Option.map_none, run_setMap h5, SOb.obj, imPut, imClock, hf]
        simp [ient]
      | some p =>
        obtain ⟨i, x⟩ := p
        obtain ⟨d, e, hd, he, hea, _⟩ := imFind_spec hf
        have hid : i = d := by omega
        subst hid
        have hkey : ((((l.map (ient q qv)).toArray[i]?).map (·.key)).getD (Value.int q a)) = .int q a := by
          simp [he, ient, hea]
        have hstay : (Instr.keyThatStays (.int q a) (.int q a)).run P w = .ok (.int q a) w := by
          simp [Instr.keyThatStays, Instr.sameBits]
        simp only [Option.map_some, hkey, Sem.run_bind, hstay, Result.andThen_ok, run_setMap h5, SOb.obj, imPut, imClock, hf]
        congr 2
        rw [map_modify (ient q qv) (fun e => (a, vv, e.2.2)) (fun e => { e with key := .int q a, val := .int qv vv }) (fun _ => rfl)]
        simp

theorem smapDel_run {t t' : Nat} {m k : SV} {v u : Value} {n : Nat} {o : SOb} (h : smapDel P H t m k = some (n, o)) (hH : Holds ρ H w) (hm : m.den ρ = some v) (hk : k.den ρ = some u) (ty : TypeId) :
    ∃ b, ρ n = some b ∧ (Builtin.delete_ #[t, t'] ty #[v, u]).run P w = .ok undef (setB w b o.obj) := by
  unfold smapDel at h
  split at h
  case h_2 => cases h
  case h_1 n' q qv l c q' a hi hs =>
    split at h
    case isFalse => cases h
    case isTrue hq =>
      subst hq
      simp only [Option.some.injEq, Prod.mk.injEq] at h
      obtain ⟨rfl, rfl⟩ := h
      obtain ⟨kt, et, b, h1, h2, h3, rfl, h5, h6, _⟩ := imOf_spec hi hH hm
      rw [sint_den hs hk]
      refine ⟨b, h3, ?_⟩
      have e1 : (#[t, t'] : Array TypeId)[0]? = some t := rfl
      have e2 : (#[Value.map (some b), Value.int q a] : Array Value)[0]? = some (.map (some b)) := rfl
      have e3 : (#[Value.map (some b), Value.int q a] : Array Value)[1]? = some (.int q a) := rfl
      simp only [Builtin.delete_, e1, e2, e3, Sem.run_bind, run_und h1, Result.andThen_ok, run_getMap h5, run_checkInt h2, run_findInt h2]
      cases hf : imFind a l 0 with
      | none =>
        simp only [Option.map_none, Sem.run_bind, run_setMap h5, SOb.obj, imDel, hf, Result.andThen_ok, Sem.run_pure]
        rfl
      | some p =>
        obtain ⟨i, x⟩ := p
        obtain ⟨d, e, hd, he, hea, _⟩ := imFind_spec hf
        have hid : i = d := by omega
        subst hid
        have hlt := (List.getElem?_eq_some_iff.1 he).1
        simp only [Option.map_some, Sem.run_bind, run_setMap h5, SOb.obj, imDel, hf, Result.andThen_ok, Sem.run_pure]
        have : (l.map (ient q qv)).toArray.eraseIdxIfInBounds i = ((l.eraseIdx i).map (ient q qv)).toArray := by
          simp [Array.eraseIdxIfInBounds, hlt, map_eraseIdx]
        first | (rw [this]; rfl) | (simp only [this]; rfl)

theorem sbound_run {y d n : Nat} {x : Option SV} {v : Option Value} {code : BoundsCode} (h : sbound y x d = some n) (hx : ∀ s, x = some s → ∃ u, v = some u ∧ s.den ρ = some u) (hn : x = none → v = none) (w : World) :
    (x = none ∧ v = none ∧ n = d) ∨ ∃ u, v = some u ∧ (Instr.sliceBound u y code).run P w = .ok n w := by
  unfold sbound at h
  split at h
  · simp only [Option.some.injEq] at h
    exact .inl ⟨rfl, hn rfl, h.symm⟩
  · rename_i k m
    split at h
    case isFalse => cases h
    case isTrue hb =>
      simp only [Option.some.injEq] at h
      subst h
      obtain ⟨u, rfl, hu⟩ := hx _ rfl
      simp only [SV.den, Option.some.injEq] at hu
      subst hu
      refine .inr ⟨_, rfl, ?_⟩
      have hb' := Nat.le_of_ble_eq_true hb
      have hc : (0 ≤ Int.ofNat m ∧ Int.ofNat m ≤ (y : Int)) := by simp only [Int.ofNat_eq_natCast]; omega
      simp only [Instr.sliceBound, asIntOf, Sem.run_bind, Sem.run_pure, Result.andThen_ok, if_pos hc]
      rfl
  · cases h

theorem sslice_bounds {isS : Bool} {len cap h l : Nat} {lo hi : Option SV} {vl vh : Option Value} (hh : sbound cap hi len = some h) (hl : sbound h lo 0 = some l)
    (h1 : ∀ s, lo = some s → ∃ u, vl = some u ∧ s.den ρ = some u) (h1' : lo = none → vl = none) (h2 : ∀ s, hi = some s → ∃ u, vh = some u ∧ s.den ρ = some u) (h2' : hi = none → vh = none) (w : World) :
    (Instr.sliceBounds isS len cap vl vh none).run P w = .ok (l, h, cap) w := by
  have a1 := sbound_run (P := P) (code := .sliceB) hl h1 h1' w
  have a2 := sbound_run (P := P) (code := if isS then .sliceAcap else .sliceAlen) hh h2 h2' w
  rcases a1 with ⟨_, rfl, rfl⟩ | ⟨u, rfl, hu⟩ <;> rcases a2 with ⟨_, rfl, rfl⟩ | ⟨u2, rfl, hu2⟩ <;> simp_all [Instr.sliceBounds]

theorem sslice_run {t : Nat} {x y : SV} {v : Value} {lo hi : Option SV} {vl vh : Option Value} (h : sslice P t x lo hi = some y) (hx : x.den ρ = some v)
    (h1 : ∀ s, lo = some s → ∃ u, vl = some u ∧ s.den ρ = some u) (h1' : lo = none → vl = none) (h2 : ∀ s, hi = some s → ∃ u, vh = some u ∧ s.den ρ = some u) (h2' : hi = none → vh = none) (w : World) :
    ∃ q, (Instr.sliceAt t v vl vh none).run P w = .ok q w ∧ y.den ρ = some q := by
  unfold sslice at h
  split at h
  · rename_i e hu
    cases hz : tsz P e with
    | none => simp [hz] at h
    | some sz =>
      cases hh : sbound 0 hi 0 with
      | none => simp [hz, hh] at h
      | some h' =>
        cases hl : sbound h' lo 0 with
        | none => simp [hz, hh, hl] at h
        | some l =>
          simp only [hz, hh, hl, Option.bind_some] at h
          split at h
          case isFalse => cases h
          case isTrue hc =>
            simp only [Bool.and_eq_true] at hc
            have e1 := Nat.eq_of_beq_eq_true hc.1
            have e2 := Nat.eq_of_beq_eq_true hc.2
            subst e1 e2
            simp only [Option.some.injEq] at h
            subst h
            simp only [SV.den, Option.some.injEq] at hx
            subst hx
            have hb := sslice_bounds (P := P) (isS := true) hh hl h1 h1' h2 h2' w
            exact ⟨.slice none 0 0, by simp [Instr.sliceAt, Instr.slice, run_und hu, hb, run_sizeOf' hz], rfl⟩
  · rename_i e n off len cap hu
    cases hz : tsz P e with
    | none => simp [hz] at h
    | some sz =>
      cases hh : sbound cap hi len with
      | none => simp [hz, hh] at h
      | some h' =>
        cases hl : sbound h' lo 0 with
        | none => simp [hz, hh, hl] at h
        | some l =>
          simp only [hz, hh, hl, Option.bind_some] at h
          simp only [SV.den, Option.map_eq_some_iff] at hx
          obtain ⟨b, hb', rfl⟩ := hx
          have hb := sslice_bounds (P := P) (isS := true) hh hl h1 h1' h2 h2' w
          split at h
          · rename_i hc
            have e1 := Nat.eq_of_beq_eq_true hc
            subst e1
            simp only [Option.some.injEq] at h
            subst h
            exact ⟨.slice (some ⟨b, off, none⟩) (h' - cap) (cap - cap), by simp [Instr.sliceAt, Instr.slice, run_und hu, hb, run_sizeOf' hz], by simp [SV.den, hb']⟩
          · rename_i hc
            have hne : ¬ cap = l := fun e => by subst e; simp at hc
            simp only [Option.some.injEq] at h
            subst h
            exact ⟨.slice (some ⟨b, off + l * sz, none⟩) (h' - l) (cap - l), by simp [Instr.sliceAt, Instr.slice, run_und hu, hb, run_sizeOf' hz, hne, add_off], by simp [SV.den, hb']⟩
  · rename_i s hu
    cases hh : sbound s.size hi s.size with
    | none => simp [hh] at h
    | some h' =>
      cases hl : sbound h' lo 0 with
      | none => simp [hh, hl] at h
      | some l =>
        simp only [hh, hl, Option.bind_some, Option.some.injEq] at h
        subst h
        simp only [SV.den, Option.some.injEq] at hx
        subst hx
        have hb := sslice_bounds (P := P) (isS := false) hh hl h1 h1' h2 h2' w
        exact ⟨.string (s.extract l h'), by simp [Instr.sliceAt, Instr.slice, run_und hu, hb], rfl⟩
  · cases h

end
end Go.Rl
