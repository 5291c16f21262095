/-
  What the symbolic machine says is what the machine does (1): frames, single steps.
-/
import Derived.Test.YtghmpcnchjjikaaGreatRlSv6
import Derived.Test.YtghmpcnchjjikaaGreatRlSo
set_option linter.all false
set_option linter.unusedVariables false
set_option linter.unusedSimpArgs false
set_option linter.unnecessarySimpa false
namespace Go.Rl
open Go

/-! ### the machine's frames -/

def mkF (f : FuncId) (tm : Array Value) (todo : List Item) : Frame := { fn := f, tmps := tm, todo := todo, defers := [], mode := .run, kind := .normal }

theorem mkF_at (f : FuncId) (tm : Array Value) (todo : List Item) : mkF f tm todo = (mkF f #[] []).at ⟨tm, []⟩ todo := rfl

def putA (tm : Array Value) (d : Option Tmp) (v : Value) : Array Value :=
  match d with
  | some t => tm.setIfInBounds t v
  | none => tm

theorem put_eq (tm : Array Value) (d : Option Tmp) (v : Value) : (⟨tm, []⟩ : Act).put d v = ⟨putA tm d v, []⟩ := by cases d <;> rfl

section
variable {P : Program} {f : FuncId} {tm : Array Value} {k : List Item} {cs : List Frame} {w w' : World} {ops : Array Oper} {i : Nat} {rest : List Nat} {o : Oper}

def ev (tm : Array Value) : Operand → Value := (⟨tm, []⟩ : Act).eval

theorem step_op_value (ho : ops[i]? = some o) (hw : Region.wanted o (yielded ops tm) = true) {v : Value} (hr : (execOp (ev tm) o).run P w = .ok (.value v) w') :
    step P (lone (mkF f tm (.inRegion ops (i :: rest) :: k)) cs w) = .next (lone (mkF f (putA tm o.dst v) (.inRegion ops rest :: k)) cs w') := by
  have hg := stepG_op (P := P) (b := mkF f #[] []) (a := ⟨tm, []⟩) (k := k) (cs := cs) (w := w) (rest := rest) ho hw
  have hfin : ((mkF f #[] []).at ⟨tm, []⟩ (.inRegion ops (i :: rest) :: k)).finish v = mkF f (putA tm o.dst v) (.inRegion ops rest :: k) := by
    rw [Frame.finish_at, ho]; simp only [Option.bind_some, put_eq]; rfl
  refine step_lone_go ?_
  rw [mkF_at, hg, ← hfin]
  have hr' : (execOp (⟨tm, []⟩ : Act).eval o).run P w = .ok (.value v) w' := hr
  simp [stepG.apply, hr']

theorem step_op_skipR (ho : ops[i]? = some o) (hw : Region.wanted o (yielded ops tm) = true) (hr : (execOp (ev tm) o).run P w = .ok .skip w') :
    step P (lone (mkF f tm (.inRegion ops (i :: rest) :: k)) cs w) = .next (lone (mkF f (putA tm o.dst undef) (.inRegion ops rest :: k)) cs w') := by
  have hg := stepG_op (P := P) (b := mkF f #[] []) (a := ⟨tm, []⟩) (k := k) (cs := cs) (w := w) (rest := rest) ho hw
  have hfin : ((mkF f #[] []).at ⟨tm, []⟩ (.inRegion ops (i :: rest) :: k)).finish undef = mkF f (putA tm o.dst undef) (.inRegion ops rest :: k) := by
    rw [Frame.finish_at, ho]; simp only [Option.bind_some, put_eq]; rfl
  refine step_lone_go ?_
  rw [mkF_at, hg, ← hfin]
  have hr' : (execOp (⟨tm, []⟩ : Act).eval o).run P w = .ok .skip w' := hr
  simp [stepG.apply, hr']

theorem step_op_enter (ho : ops[i]? = some o) (hw : Region.wanted o (yielded ops tm) = true) {g : FuncId} {args : Array Value} (hr : (execOp (ev tm) o).run P w = .ok (.enter g args) w') :
    step P (lone (mkF f tm (.inRegion ops (i :: rest) :: k)) cs w) = .next (lone (Frame.enter P g args .normal) (mkF f tm (.inRegion ops (i :: rest) :: k) :: cs) w') := by
  have hg := stepG_op (P := P) (b := mkF f #[] []) (a := ⟨tm, []⟩) (k := k) (cs := cs) (w := w) (rest := rest) ho hw
  refine step_lone_go ?_
  rw [mkF_at, hg]
  have hr' : (execOp (⟨tm, []⟩ : Act).eval o).run P w = .ok (.enter g args) w' := hr
  simp [stepG.apply, hr', Frame.at]

theorem step_op_unwanted (hw : ((ops[i]?).map (Region.wanted · (yielded ops tm))).getD false = false) :
    step P (lone (mkF f tm (.inRegion ops (i :: rest) :: k)) cs w) = .next (lone (mkF f (putA tm ((ops[i]?).bind (·.dst)) undef) (.inRegion ops rest :: k)) cs w) := by
  have := step_op_skip (P := P) (b := mkF f #[] []) (a := ⟨tm, []⟩) (k := k) (cs := cs) (w := w) (rest := rest) hw
  rw [put_eq] at this
  exact this

end

/-! ### readings of slots -/

structure TmRel (ρ : Rho) (skip : Tmp → Prop) (sm : List SV) (tm : Array Value) : Prop where
  size : tm.size = sm.length
  den : ∀ t, ¬ skip t → (sm.getD t (.tp [])).den ρ = some (tm.getD t undef)

theorem TmRel.mono {ρ ρ' : Rho} {skip : Tmp → Prop} {sm : List SV} {tm : Array Value} (h : TmRel ρ skip sm tm) (hl : ρ.le ρ') : TmRel ρ' skip sm tm :=
  ⟨h.size, fun t ht => den_mono hl (h.den t ht)⟩

theorem TmRel.sval {ρ : Rho} {skip : Tmp → Prop} {sm : List SV} {tm : Array Value} (h : TmRel ρ skip sm tm) (x : Operand) (hx : ∀ t, x = .tmp t → ¬ skip t) :
    (sval sm x).den ρ = some (ev tm x) := by
  cases x with
  | tmp t => exact h.den t (hx t rfl)
  | const v => exact ofV_den ρ v
  | global g => rfl
  | func f => simp [Rl.sval, SV.den, SV.denL, ev, Act.eval]

theorem getD_set_eq {l : List SV} {t : Nat} {x d : SV} (h : t < l.length) : (l.set t x).getD t d = x := by simp [List.getD, h]
theorem getD_set_ne {l : List SV} {t u : Nat} {x d : SV} (h : t ≠ u) : (l.set t x).getD u d = l.getD u d := by simp [List.getD, List.getElem?_set_ne h]

theorem TmRel.set {ρ : Rho} {skip skip' : Tmp → Prop} {sm : List SV} {tm : Array Value} (h : TmRel ρ skip sm tm) {t : Tmp} {x : SV} {v : Value} (hd : x.den ρ = some v)
    (hs : ∀ u, ¬ skip' u → u ≠ t → ¬ skip u) : TmRel ρ skip' (sm.set t x) (tm.setIfInBounds t v) := by
  refine ⟨by simp [h.size], fun u hu => ?_⟩
  by_cases hut : u = t
  · subst hut
    by_cases hlt : u < sm.length
    · rw [getD_set_eq hlt]
      have : u < tm.size := by rw [h.size]; exact hlt
      simp [Array.getD_eq_getD_getElem?, this, hd]
    · have h1 : sm.set u x = sm := by exact List.set_eq_of_length_le (Nat.le_of_not_lt hlt)
      have h2 : ¬ u < tm.size := by rw [h.size]; exact hlt
      have h3 : tm.setIfInBounds u v = tm := by simp [Array.setIfInBounds, h2]
      rw [h1, h3]
      simp [List.getD, List.getElem?_eq_none (Nat.le_of_not_lt hlt), Array.getD, h2, SV.den, SV.denL, undef]
  · rw [getD_set_ne (Ne.symm hut)]
    have := h.den u (hs u hu hut)
    rw [this]
    simp [Array.getD_eq_getD_getElem?, Array.getElem?_setIfInBounds_ne (Ne.symm hut)]

/-- Some Bools are what was decided. -/
def GdOK (gd : List (Tmp × Bool)) (sm : List SV) : Prop := ∀ t d, gd.lookup t = some d → ∃ q, sm.getD t (.tp []) = .v (.bool q) ∧ q = d

theorem lookup_filter {gd : List (Tmp × Bool)} {t u : Tmp} (h : u ≠ t) : (gd.filter fun q => !(Nat.beq q.1 t)).lookup u = gd.lookup u := by
  induction gd with
  | nil => rfl
  | cons q r ih =>
    obtain ⟨a, b⟩ := q
    by_cases ha : a = t
    · subst ha
      have h1 : Nat.beq a a = true := Nat.beq_refl a
      have h2 : (u == a) = false := by simpa using h
      simp [List.filter_cons, h1, ih, List.lookup_cons, h2]
    · have h1 : Nat.beq a t = false := by
        cases hb : Nat.beq a t with
        | false => rfl
        | true => exact absurd (Nat.eq_of_beq_eq_true hb) ha
      simp only [List.filter_cons, h1, Bool.not_false, if_true, List.lookup_cons, ih]

theorem lookup_filter_self {gd : List (Tmp × Bool)} {t : Tmp} : (gd.filter fun q => !(Nat.beq q.1 t)).lookup t = none := by
  induction gd with
  | nil => rfl
  | cons q r ih =>
    obtain ⟨a, b⟩ := q
    by_cases ha : a = t
    · subst ha
      have h1 : Nat.beq a a = true := Nat.beq_refl a
      simp [List.filter_cons, h1, ih]
    · have h1 : Nat.beq a t = false := by
        cases hb : Nat.beq a t with
        | false => rfl
        | true => exact absurd (Nat.eq_of_beq_eq_true hb) ha
      have h2 : (t == a) = false := by simpa using (Ne.symm ha)
      simp only [List.filter_cons, h1, Bool.not_false, if_true, List.lookup_cons, ih, h2]

theorem GdOK.set {gd : List (Tmp × Bool)} {sm : List SV} (h : GdOK gd sm) (t : Tmp) (x : SV) : GdOK (gd.filter fun q => !(Nat.beq q.1 t)) (sm.set t x) := by
  intro u d hu
  by_cases hut : u = t
  · subst hut; rw [lookup_filter_self] at hu; cases hu
  · rw [lookup_filter hut] at hu
    obtain ⟨q, h1, h2⟩ := h u d hu
    exact ⟨q, by rw [getD_set_ne (Ne.symm hut)]; exact h1, h2⟩

theorem GdOK.cons {gd : List (Tmp × Bool)} {sm : List SV} (h : GdOK gd sm) {t : Tmp} {q d : Bool} (ht : sm.getD t (.tp []) = .v (.bool q)) (hq : q = d) : GdOK ((t, d) :: gd) sm := by
  intro u e hu
  rw [List.lookup_cons] at hu
  split at hu
  · rename_i he
    have : u = t := by simpa using he
    subst this
    cases hu
    exact ⟨q, ht, hq⟩
  · exact h u e hu

/-- The guard of an operation. -/
theorem wantedS_spec {ρ : Rho} {skip : Tmp → Prop} {sm : List SV} {tm : Array Value} (h : TmRel ρ skip sm tm) {gd : List (Tmp × Bool)} (hg : GdOK gd sm) {ops : Array Oper} {o : Oper}
    (hs : ∀ j want t x, o.guard = some (j, want) → ops[j]? = some x → x.dst = some t → ¬ skip t) :
    (wantedS ops sm gd o = .yes → Region.wanted o (yielded ops tm) = true) ∧ (wantedS ops sm gd o = .no → Region.wanted o (yielded ops tm) = false) := by
  unfold wantedS Region.wanted
  cases hgd : o.guard with
  | none => simp
  | some jw =>
    obtain ⟨j, want⟩ := jw
    simp only
    cases hj : ops[j]? with
    | none => simp [yielded, hj]
    | some x =>
      cases hd : x.dst with
      | none => simp [yielded, hj, hd]
      | some t =>
        have hden := h.den t (hs j want t x hgd hj hd)
        simp only [Option.bind_some, hd]
        have hy : yielded ops tm j = match tm.getD t undef with | .bool b => some b | _ => none := by
          unfold yielded
          simp only [hj, hd, Option.bind_some]
          by_cases ht : t < tm.size
          · simp only [Array.getD, ht, dif_pos, Array.getElem?_eq_getElem ht]
            simp only [Array.getInternal_eq_getElem]
            cases tm[t] <;> rfl
          · simp [Array.getD, ht, undef]
        rw [hy]
        generalize tm.getD t undef = v at hden ⊢
        cases hsv : sm.getD t (.tp []) <;> rw [hsv] at hden <;> simp only [SV.den, Option.some.injEq] at hden <;> try simp
        case b b =>
          rw [← hden]
          cases b <;> cases want <;> simp
        case tp cs =>
          simp only [Option.map_eq_some_iff] at hden
          obtain ⟨l, _, hl⟩ := hden
          rw [← hl]; simp
        case v x =>
          subst hden
          rename_i x
          cases x <;> simp
          rename_i q
          cases hlk : gd.lookup t with
          | none => simp
          | some d =>
            obtain ⟨q', h1, h2⟩ := hg t d hlk
            rw [hsv] at h1
            simp only [SV.v.injEq, Value.bool.injEq] at h1
            subst h1 h2
            cases q <;> cases want <;> simp

end Go.Rl
