/-
  What the symbolic machine says is what the machine does (2): operations in their surroundings.
-/
import Derived.Test.YtghmpcnchjjikaaGreatRlSp
set_option linter.all false
set_option linter.unusedVariables false
set_option linter.unusedSimpArgs false
set_option linter.unnecessarySimpa false
namespace Go.Rl
open Go

section
variable {P : Program} {ρ : Rho} {H H' : List SO} {w : World} {tm tm' : List SV}

theorem map_sval {l : List Operand} (h : ∀ x ∈ l, sval tm x = sval tm' x) : l.map (sval tm) = l.map (sval tm') := List.map_congr_left h

theorem sop_congr (o : Oper) (h : ∀ x ∈ o.op.operands, sval tm x = sval tm' x) : sop P H tm o = sop P H tm' o := by
  obtain ⟨dst, op, ty, pos, after, guard⟩ := o
  cases op <;> simp only [sop]
  case move x => rw [h x (by simp [Op.operands])]
  case assign x => rw [h x (by simp [Op.operands])]
  case pick c a b => rw [h c (by simp [Op.operands]), h a (by simp [Op.operands]), h b (by simp [Op.operands])]
  case load t a => rw [h a (by simp [Op.operands])]
  case store t a x => rw [h a (by simp [Op.operands]), h x (by simp [Op.operands])]
  case nilCheck x => rw [h x (by simp [Op.operands])]
  case fieldAddr t x f => rw [h x (by simp [Op.operands])]
  case field t x f => rw [h x (by simp [Op.operands])]
  case extract t j => rw [h t (by simp [Op.operands])]
  case build t ps =>
    have : (ps.toList.map fun (p : Nat × Operand) => (p.1, sval tm p.2)) = ps.toList.map fun (p : Nat × Operand) => (p.1, sval tm' p.2) :=
      List.map_congr_left fun p hp => by rw [h p.2 (by simp only [Op.operands, List.mem_toArray, List.mem_map]; exact ⟨p, hp, rfl⟩)]
    exact congrArg (fun l => OR.ofVal (sbuild P t l)) this
  case buildSlice t n ps =>
    have : (ps.toList.map fun (p : Nat × Operand) => (p.1, sval tm p.2)) = ps.toList.map fun (p : Nat × Operand) => (p.1, sval tm' p.2) :=
      List.map_congr_left fun p hp => by rw [h p.2 (by simp only [Op.operands, List.mem_toArray, List.mem_map]; exact ⟨p, hp, rfl⟩)]
    exact congrArg (fun l => match sbuildSlice P t n l with | some (cs, e) => OR.new (.slice n) cs e | none => .stop) this
  case makeMap t res => cases res <;> rfl
  case typeAssert x xT t ok =>
    cases ok with
    | false => rfl
    | true => simp only; rw [h x (by simp [Op.operands])]
  case slice t x lo hi mx =>
    cases mx with
    | some q => rfl
    | none =>
      have h1 : lo.map (sval tm) = lo.map (sval tm') := by
        cases lo with
        | none => rfl
        | some l => simp only [Option.map_some]; rw [h l (by simp [Op.operands])]
      have h2 : hi.map (sval tm) = hi.map (sval tm') := by
        cases hi with
        | none => rfl
        | some l => simp only [Option.map_some]; rw [h l (by simp [Op.operands])]
      simp only
      rw [h x (by simp [Op.operands]), h1, h2]
  case lookup t m k ok => rw [h m (by simp [Op.operands]), h k (by simp [Op.operands])]
  case mapUpdate t m k x => rw [h m (by simp [Op.operands]), h k (by simp [Op.operands]), h x (by simp [Op.operands])]
  case insert t m k x => rw [h m (by simp [Op.operands]), h k (by simp [Op.operands]), h x (by simp [Op.operands])]
  case makeSlice t x y => rw [h x (by simp [Op.operands]), h y (by simp [Op.operands])]
  case box e x => rw [h x (by simp [Op.operands])]
  case makeFunc fn first capt =>
    cases fn <;> simp only
    rw [map_sval (l := capt.toList) (fun x hx => h x (by simp only [Op.operands, Array.mem_append]; exact .inr (by simpa using hx))),
      map_sval (l := first.toList) (fun x hx => h x (by simp only [Op.operands, Array.mem_append]; exact .inl (by simpa using hx)))]
  case makeInterface t x => rw [h x (by simp [Op.operands])]
  case unOp op t x =>
    cases op <;> simp only
    rw [h x (by simp [Op.operands])]
  case binOp op t x y ty2 => rw [h x (by simp [Op.operands]), h y (by simp [Op.operands])]
  case indexAddr t x j => rw [h x (by simp [Op.operands]), h j (by simp [Op.operands])]
  case index t x j => rw [h x (by simp [Op.operands]), h j (by simp [Op.operands])]
  case call c =>
    obtain ⟨callee, args, ts⟩ := c
    simp only
    have hargs : args.toList.map (sval tm) = args.toList.map (sval tm') := map_sval fun x hx => h x (by
      simp only [Op.operands, Call.operands, Array.mem_append]; exact .inr (by simpa using hx))
    cases callee with
    | value g =>
      cases g with
      | func f => simp only [hargs]
      | tmp t => simp only; rw [h (.tmp t) (by simp [Op.operands, Call.operands]), hargs]
      | const v => simp only; rw [h (.const v) (by simp [Op.operands, Call.operands]), hargs]
      | global v => simp only; rw [h (.global v) (by simp [Op.operands, Call.operands]), hargs]
    | invoke r m => simp only; rw [h r (by simp [Op.operands, Call.operands]), hargs]
    | builtin b =>
      cases b <;> simp only
      iterate 2
        · cases ha : args.toList with
          | nil => simp
          | cons x l =>
            cases l with
            | nil => simp
            | cons y l =>
              cases l with
              | nil =>
                have hm : ∀ q ∈ [x, y], sval tm q = sval tm' q := fun q hq => h q (by simp only [Op.operands, Call.operands, Array.mem_append]; exact .inr (by rw [← Array.mem_toList_iff, ha]; exact hq))
                have h1 := hm x (by simp)
                have h2 := hm y (by simp)
                split
                · rename_i q; cases q; rw [h1, h2]
                · rfl
              | cons z l => simp
      · cases ht : ts.toList with
        | nil => simp
        | cons t ts' =>
          cases ha : args.toList with
          | nil => simp
          | cons x l =>
            cases l with
            | nil => simp only; rw [h x (by simp only [Op.operands, Call.operands, Array.mem_append]; exact .inr (by rw [← Array.mem_toList_iff, ha]; simp))]
            | cons y l => simp
      · cases ha : args.toList with
        | nil => simp
        | cons x l =>
          cases l with
          | nil => simp
          | cons y l =>
            cases l with
            | nil =>
              have hm : ∀ q ∈ [x, y], sval tm q = sval tm' q := fun q hq => h q (by simp only [Op.operands, Call.operands, Array.mem_append]; exact .inr (by rw [← Array.mem_toList_iff, ha]; exact hq))
              simp only
              rw [hm x (by simp), hm y (by simp)]
            | cons z l => simp

theorem sval_congr {x : Operand} (h : ∀ t, x = .tmp t → tm.getD t (.tp []) = tm'.getD t (.tp [])) : sval tm x = sval tm' x := by
  cases x <;> first | exact h _ rfl | rfl

theorem mem_reads {ops : List Oper} {o : Oper} {x : Operand} (hx : x ∈ o.op.operands) {t : Tmp} (he : x = .tmp t) : t ∈ readsOf ops o := by
  subst he
  unfold readsOf
  refine List.mem_append.2 (.inl ?_)
  rw [List.mem_filterMap]
  exact ⟨.tmp t, by simpa using hx, rfl⟩

theorem guard_reads {ops : Array Oper} {o : Oper} {j : Nat} {want : Bool} {x : Oper} {t : Tmp} (h1 : o.guard = some (j, want)) (h2 : ops[j]? = some x) (h3 : x.dst = some t) :
    t ∈ readsOf ops.toList o := by
  unfold readsOf
  refine List.mem_append.2 (.inr ?_)
  simp [h1, h2, h3]

theorem sopG_congr {gd gd' : List (Tmp × Bool)} {ops : List Oper} (o : Oper) (h : ∀ t ∈ readsOf ops o, tm.getD t (.tp []) = tm'.getD t (.tp []) ∧ gd.lookup t = gd'.lookup t) :
    sopG P H tm gd o = sopG P H tm' gd' o := by
  have hs : sop P H tm o = sop P H tm' o := sop_congr o fun x hx => sval_congr fun t e => (h t (mem_reads hx e)).1
  unfold sopG
  split
  · rename_i t a b e
    have ht := h t (mem_reads (o := o) (x := .tmp t) (by simp [e, Op.operands]) rfl)
    have ha : sval tm a = sval tm' a := sval_congr fun u e2 => (h u (mem_reads (o := o) (x := a) (by simp [e, Op.operands]) e2)).1
    have hb : sval tm b = sval tm' b := sval_congr fun u e2 => (h u (mem_reads (o := o) (x := b) (by simp [e, Op.operands]) e2)).1
    rw [ht.1, ht.2, ha, hb, hs]
  · exact hs

theorem wantedS_congr {gd gd' : List (Tmp × Bool)} {ops : Array Oper} (o : Oper) (h : ∀ t ∈ readsOf ops.toList o, tm.getD t (.tp []) = tm'.getD t (.tp []) ∧ gd.lookup t = gd'.lookup t) :
    wantedS ops tm gd o = wantedS ops tm' gd' o := by
  unfold wantedS
  cases hg : o.guard with
  | none => rfl
  | some jw =>
    obtain ⟨j, want⟩ := jw
    simp only
    cases hj : ops[j]? with
    | none => rfl
    | some x =>
      cases hd : x.dst with
      | none => simp [hd]
      | some t =>
        have := h t (guard_reads hg hj hd)
        simp only [Option.bind_some, hd]
        rw [this.1, this.2]

theorem sop_heap0 {o : Oper} (hk : opKind o.op = 0) (hl : ∀ t a n off x, o.op = .load t a → sval tm a = .p n off → sload P H t n off = some x → sload P H' t n off = some x) {y : SV}
    (h : (sop P H tm o).isVal y) : (sop P H' tm o).isVal y := by
  obtain ⟨dst, op, ty, pos, after, guard⟩ := o
  cases op <;> simp only [opKind] at hk <;> try (first | exact h | (exact absurd hk (by decide)))
  case load t a =>
    simp only [sop] at h ⊢
    split at h
    case h_2 => rcases h with h | ⟨_, h, _⟩ <;> cases h
    case h_1 n off e =>
      cases hs : sload P H t n off with
      | none => rw [hs] at h; rcases h with h | ⟨_, h, _⟩ <;> cases h
      | some x =>
        rw [hs] at h
        rw [hl t a n off x rfl e hs]
        exact h
  case unOp op t x => cases op <;> exact h
  case makeFunc fn first c => cases fn <;> exact h
  case slice t x lo hi mx => cases mx <;> exact h
  case typeAssert x xT t ok => cases ok <;> exact h
  case call c =>
    obtain ⟨callee, args, ts⟩ := c
    cases callee with
    | value g => simp at hk
    | invoke r m => simp at hk
    | builtin b => cases b <;> first | exact h | (simp at hk; done)

theorem sop_heap1 {o : Oper} (hk : opKind o.op = 1) : sop P H tm o = sop P H' tm o := by
  obtain ⟨dst, op, ty, pos, after, guard⟩ := o
  cases op <;> simp only [opKind] at hk <;> try (first | rfl | (exact absurd hk (by decide)))
  case call c =>
    obtain ⟨callee, args, ts⟩ := c
    cases callee with
    | value g => simp at hk
    | invoke r m => simp at hk
    | builtin b => cases b <;> simp at hk

theorem sopG_heap0 {gd : List (Tmp × Bool)} {o : Oper} (hk : opKind o.op = 0) (hl : ∀ t a n off x, o.op = .load t a → sval tm a = .p n off → sload P H t n off = some x → sload P H' t n off = some x) {y : SV}
    (h : (sopG P H tm gd o).isVal y) : (sopG P H' tm gd o).isVal y := by
  unfold sopG at h ⊢
  split at h
  · rename_i t a b e
    split at h
    · exact h
    · exact sop_heap0 hk hl h
  · exact sop_heap0 hk hl h

theorem sopG_heap1 {gd : List (Tmp × Bool)} {o : Oper} (hk : opKind o.op = 1) : sopG P H tm gd o = sopG P H' tm gd o := by
  have h := sop_heap1 (P := P) (H := H) (H' := H') (tm := tm) hk
  unfold sopG
  split
  · rename_i t a b e; rw [e] at hk; simp [opKind] at hk
  · exact h

theorem sopG_sound {skip : Tmp → Prop} {rm : Array Value} (hH : Holds ρ H w) (hT : TmRel ρ skip tm rm) {gd : List (Tmp × Bool)} (hg : GdOK gd tm) (o : Oper)
    (hs : ∀ t, .tmp t ∈ o.op.operands → ¬ skip t) : (sopG P H tm gd o).Sound P ρ w (execOp (ev rm) o) := by
  have hx : ∀ x ∈ o.op.operands, (sval tm x).den ρ = some (ev rm x) := fun x hx => hT.sval x fun t e => hs t (e ▸ hx)
  have hb := sop_sound (P := P) hH o hx
  unfold sopG
  split
  · rename_i t a b e
    split
    · rename_i q e2
      cases hl : gd.lookup t with
      | none => trivial
      | some d =>
        obtain ⟨q', h1, h2⟩ := hg t d hl
        rw [e2] at h1
        simp only [SV.v.injEq, Value.bool.injEq] at h1
        subst h1
        subst h2
        have hc := hx (.tmp t) (by simp [e, Op.operands])
        have ha := hx a (by simp [e, Op.operands])
        have hbb := hx b (by simp [e, Op.operands])
        have hc2 : (sval tm (.tmp t)) = .v (.bool q) := e2
        rw [hc2] at hc
        simp only [SV.den, Option.some.injEq] at hc
        refine ⟨if q then ev rm a else ev rm b, ?_, ?_⟩
        · simp only [execOp, e, ← hc, asBool, Sem.run_bind, Sem.run_pure, Result.andThen_ok]
        · cases q
          · exact hbb
          · exact ha
    · exact hb
  · exact hb

/-! ### loads under changes of memory -/

theorem sload_append (x : SO) {t n off : Nat} {y : SV} (h : sload P H t n off = some y) : sload P (H ++ [x]) t n off = some y := by
  unfold sload at h ⊢
  cases ha : isAg P t with
  | none => simp [ha] at h
  | some ag =>
    cases hz : tsz P t with
    | none => simp [ha, hz] at h
    | some sz =>
      cases hk : H[n]?.bind ksOf with
      | none => simp [ha, hz, hk] at h
      | some ks =>
        have : (H ++ [x])[n]?.bind ksOf = some ks := by
          cases hn : H[n]? with
          | none => simp [hn] at hk
          | some o => rw [List.getElem?_append_left (List.getElem?_eq_some_iff.1 hn).1, hn]; rw [hn] at hk; exact hk
        simpa [ha, hz, hk, this] using h

theorem sload_set_other {t n m off : Nat} {y : SV} {o : SO} (hne : m ≠ n) (h : sload P H t n off = some y) : sload P (H.set m o) t n off = some y := by
  unfold sload at h ⊢
  rw [List.getElem?_set_ne hne]
  exact h

/-- A load does not see a store beside it. -/
theorem sload_store {t n off : Nat} {y : SV} (h : sload P H t n off = some y) {u m mo : Nat} {x : SV} {H' : List SO} (hs : sstore P H u m mo x = some H') {sz uz : Nat}
    (hz : tsz P t = some sz) (hu : tsz P u = some uz) (hsz : sz ≠ 0 ∨ True) (hc : m ≠ n ∨ off + (if isAg P t = some true then sz else 1) ≤ mo ∨ mo + uz ≤ off) : sload P H' t n off = some y := by
  unfold sstore at hs
  cases hcs : cellsS x with
  | none => simp [hu, hcs] at hs
  | some cs =>
    simp only [hu, hcs, Option.bind_some] at hs
    split at hs
    case h_2 => cases hs
    case h_1 ks rest T hrow =>
      split at hs
      case isFalse => cases hs
      case isTrue hcond =>
        simp only [Bool.and_eq_true] at hcond
        have h1 := Nat.eq_of_beq_eq_true hcond.1.1
        have h2 := Nat.le_of_ble_eq_true hcond.1.2
        simp only [Option.some.injEq] at hs
        subst hs
        by_cases hmn : m = n
        · subst hmn
          have hc' : off + (if isAg P t = some true then sz else 1) ≤ mo ∨ mo + uz ≤ off := by
            rcases hc with hc | hc
            · exact absurd rfl hc
            · exact hc
          unfold sload at h ⊢
          have hlt : m < H.length := (List.getElem?_eq_some_iff.1 hrow).1
          have hk : H[m]?.bind ksOf = some ks := by rw [hrow]; rfl
          have hk' : (H.set m (.row true (ks.take mo ++ (cs ++ ks.drop (mo + uz))) rest T))[m]?.bind ksOf = some (ks.take mo ++ (cs ++ ks.drop (mo + uz))) := by
            rw [List.getElem?_set_self hlt]; rfl
          rw [hk'] 
          rw [hk] at h
          have key : ∀ j, (off ≤ j ∧ j < off + (if isAg P t = some true then sz else 1)) → (ks.take mo ++ (cs ++ ks.drop (mo + uz)))[j]? = ks[j]? := by
            intro j hj
            rcases hc' with hc' | hc'
            · rw [List.getElem?_append_left (by simp; omega), List.getElem?_take_of_lt (by omega)]
            · rw [List.getElem?_append_right (by simp; omega), List.getElem?_append_right (by simp; omega), List.getElem?_drop]
              congr 1
              simp; omega
          cases ha : isAg P t with
          | none => simp [ha] at h
          | some ag =>
            simp only [ha, hz, Option.bind_some] at h key ⊢
            cases ag with
            | false =>
              simp only at h ⊢
              rw [key off (by simp)]; exact h
            | true =>
              simp only at h ⊢
              have hl : (ks.take mo ++ (cs ++ ks.drop (mo + uz))).length = ks.length := by simp; omega
              rw [hl]
              split at h
              case isFalse => cases h
              case isTrue hle =>
                have hle' := Nat.le_of_ble_eq_true hle
                rw [if_pos hle, ← h]
                congr 2
                apply List.ext_getElem?
                intro j
                by_cases hj : j < sz
                · rw [List.getElem?_take_of_lt hj, List.getElem?_take_of_lt hj, List.getElem?_drop, List.getElem?_drop, key (off + j) (by simp; omega)]
                · rw [List.getElem?_take_eq_none (by omega), List.getElem?_take_eq_none (by omega)]
        · exact sload_set_other hmn h

end
end Go.Rl
