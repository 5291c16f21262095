/-
  What the symbolic operations say is what the operations do (3): all operations.
-/
import Derived.Test.YtghmpcnchjjikaaGreatRlSv3
set_option linter.all false
set_option linter.unusedVariables false
set_option linter.unusedSimpArgs false
set_option linter.unnecessarySimpa false
namespace Go.Rl
open Go

def NewK.val : NewK → Nat → Value
  | .ptr, b => .pointer (some ⟨b, 0, none⟩)
  | .slice l, b => .slice (some ⟨b, 0, none⟩) l l

theorem NewK.den {ρ : Rho} {k : NewK} {n b : Nat} (h : ρ n = some b) : (k.sv n).den ρ = some (k.val b) := by
  cases k <;> simp [NewK.sv, NewK.val, SV.den, h]

def OR.Sound (P : Program) (ρ : Rho) (w : World) (s : Sem Next) : OR → Prop
  | .val y => ∃ v, s.run P w = .ok (.value v) w ∧ y.den ρ = some v
  | .need c y => c = true → ∃ v, s.run P w = .ok (.value v) w ∧ y.den ρ = some v
  | .br _ _ => True
  | .new k ks T => ∃ vs, SV.denL ρ ks = some vs ∧ ∀ w' : World, s.run P w' = .ok (.value (k.val w'.heap.size)) (w'.alloc (.cells vs.toArray T (0, 0)))
  | .heap H' => ∃ w', s.run P w = .ok .skip w' ∧ Holds ρ H' w' ∧ Moves ρ ρ w w'
  | .map q => s.run P w = .ok (.value (.map (some w.heap.size))) (w.alloc q.obj)
  | .hobj n q => ∃ w', (s.run P w = .ok .skip w' ∨ s.run P w = .ok (.value undef) w') ∧ Moves ρ ρ w w' ∧ ∀ H o', Holds ρ H w → H[n]? = some (.obj o') → Holds ρ (H.set n (.obj q)) w'
  | .enter f args => ∃ vs, SV.denL ρ args = some vs ∧ ∀ w' : World, s.run P w' = .ok (.enter f vs.toArray) w'
  | .stop => True

section
variable {P : Program} {ρ : Rho} {H : List SO} {w : World} {r : Operand → Value} {tm : List SV}

theorem OR.sound_ofVal {s : Sem Next} {x : Option SV} (h : ∀ y, x = some y → ∃ v, s.run P w = .ok (.value v) w ∧ y.den ρ = some v) :
    (OR.ofVal x).Sound P ρ w s := by
  cases x with
  | none => trivial
  | some y => exact h y rfl

theorem OR.Sound.isVal {s : Sem Next} {x : OR} {y : SV} (h : x.Sound P ρ w s) (hv : x.isVal y) : ∃ v, s.run P w = .ok (.value v) w ∧ y.den ρ = some v := by
  rcases hv with rfl | ⟨c, rfl, rfl⟩
  · exact h
  · exact h rfl

theorem den_p {n off : Nat} {v : Value} (h : SV.den ρ (.p n off) = some v) : ∃ b, ρ n = some b ∧ v = .pointer (some ⟨b, off, none⟩) := by
  simp only [SV.den, Option.map_eq_some_iff] at h
  obtain ⟨b, hb, rfl⟩ := h
  exact ⟨b, hb, rfl⟩

theorem den_ag {cs : List SV} {v : Value} (h : SV.den ρ (.ag cs) = some v) : ∃ l, SV.denL ρ cs = some l ∧ v = .agg l.toArray := by
  simp only [SV.den, Option.map_eq_some_iff] at h
  obtain ⟨b, hb, rfl⟩ := h
  exact ⟨b, hb, rfl⟩

theorem den_tp {cs : List SV} {v : Value} (h : SV.den ρ (.tp cs) = some v) : ∃ l, SV.denL ρ cs = some l ∧ v = .tuple l.toArray := by
  simp only [SV.den, Option.map_eq_some_iff] at h
  obtain ⟨b, hb, rfl⟩ := h
  exact ⟨b, hb, rfl⟩

theorem den_fn {f : FuncId} {cs : List SV} {v : Value} (h : SV.den ρ (.fn f cs) = some v) : ∃ l, SV.denL ρ cs = some l ∧ v = .func (.func f) #[] l.toArray := by
  simp only [SV.den, Option.map_eq_some_iff] at h
  obtain ⟨b, hb, rfl⟩ := h
  exact ⟨b, hb, rfl⟩

theorem den_fb {f : FuncId} {cs : List SV} {v : Value} (h : SV.den ρ (.fb f cs) = some v) : ∃ l, SV.denL ρ cs = some l ∧ v = .func (.func f) l.toArray #[] := by
  simp only [SV.den, Option.map_eq_some_iff] at h
  obtain ⟨b, hb, rfl⟩ := h
  exact ⟨b, hb, rfl⟩

theorem run_zero {t : Nat} {x : SV} (h : zeroS P t = some x) (w : World) : ∃ z, (zeroValue t).run P w = .ok z w ∧ x.den ρ = some z ∧ x = ofV z := by
  unfold zeroS at h
  cases hi : P.info? t with
  | none => simp [hi] at h
  | some i =>
    simp only [hi, Option.bind_some, Option.map_eq_some_iff] at h
    obtain ⟨z, hz, rfl⟩ := h
    exact ⟨z, by simp [zeroValue, typeInfo, hi, hz], ofV_den ρ z, rfl⟩

theorem foff_place {t f d : Nat} (h : foff P t f = some d) : ∃ fs fl sz, P.underlying t = some (.struct fs) ∧ fs[f]? = some fl ∧ tsz P fl.type = some sz ∧ sz ≠ 0 ∧ fl.offset = d := by
  unfold foff at h
  split at h
  case h_2 => simp at h
  case h_1 fs hu =>
    cases hf : fs[f]? with
    | none => simp [hf] at h
    | some fl =>
      cases hz : tsz P fl.type with
      | none => simp [hf, hz] at h
      | some sz =>
        simp only [hf, hz, Option.bind_some] at h
        split at h
        · simp at h
        · rename_i hne
          refine ⟨fs, fl, sz, hu, hf, hz, fun e => ?_, by simpa using h⟩
          subst e; simp at hne

theorem spart_run {t off : Nat} {cs : List SV} {l : List Value} {y : SV} (h : spart P t cs off = some y) (hd : SV.denL ρ cs = some l) (w : World) :
    ∃ v, (part t l.toArray off).run P w = .ok v w ∧ y.den ρ = some v := by
  unfold spart at h
  have hlen := denL_length hd
  cases ha : isAg P t with
  | none => simp [ha] at h
  | some ag =>
    simp only [ha, Option.bind_some] at h
    cases ag with
    | false =>
      simp only at h
      obtain ⟨v, hv, hy⟩ := denL_get hd h
      refine ⟨v, ?_, hy⟩
      simp [part, isAg_und ha, hv]
    | true =>
      simp only at h
      cases hz : tsz P t with
      | none => simp [hz] at h
      | some sz =>
        simp only [hz, Option.bind_some] at h
        split at h
        case isFalse => simp at h
        case isTrue hle =>
          have hle' := Nat.le_of_ble_eq_true hle
          simp only [Option.some.injEq] at h
          subst h
          refine ⟨.agg ((l.drop off).take sz).toArray, ?_, by simp only [SV.den, denL_take sz (denL_drop off hd)]; rfl⟩
          simp only [part, Sem.run_bind, isAg_und ha, Result.andThen_ok, if_true, run_sizeOf' hz, Sem.run_pure]
          congr 2
          simp [List.extract_toArray, List.extract_eq_take_drop]

/-- Parts laid over cells. -/
theorem foldl_lay (cs : List Value) : ∀ (off : Nat) (l : List Value), off + cs.length ≤ l.length →
    (cs.zipIdx.foldl (fun (a : Array Value) (x : Value × Nat) => a.setIfInBounds (off + x.2) x.1) l.toArray) = (l.take off ++ (cs ++ l.drop (off + cs.length))).toArray := by
  have gen : ∀ (cs : List Value) (off k : Nat) (l : List Value), off + k + cs.length ≤ l.length →
      ((cs.zipIdx k).foldl (fun (a : Array Value) (x : Value × Nat) => a.setIfInBounds (off + x.2) x.1) l.toArray) = (l.take (off + k) ++ (cs ++ l.drop (off + k + cs.length))).toArray := by
    intro cs
    induction cs with
    | nil => intro off k l _; simp
    | cons c r ih =>
      intro off k l hl
      simp only [List.length_cons] at hl
      simp only [List.zipIdx_cons, List.foldl_cons, List.setIfInBounds_toArray]
      rw [ih off (k + 1) _ (by simp; omega)]
      have e := list_seg_step l (off + k) c r (by omega)
      simp only [List.append_assoc] at e
      simp only [← Nat.add_assoc, List.length_cons] at e ⊢
      rw [e]
  intro off l h
  simpa using gen cs off 0 l (by simpa using h)

theorem fillS_run {place : Nat → Option (Nat × Nat)} : ∀ {parts : List (Nat × SV)} {cells out : List SV} {l : List Value} {pv : List (Nat × Value)},
    fillS place cells parts = some out → SV.denL ρ cells = some l → (parts.map fun x => (x.1, x.2.den ρ)) = pv.map (fun x => (x.1, some x.2)) →
    ∃ o, Instr.fill place l.toArray pv = some o.toArray ∧ SV.denL ρ out = some o
  | [], cells, out, l, pv, h, hd, hp => by
    simp only [fillS, Option.some.injEq] at h
    cases pv with
    | nil => subst h; exact ⟨l, rfl, hd⟩
    | cons _ _ => simp at hp
  | (i, x) :: rest, cells, out, l, pv, h, hd, hp => by
    cases pv with
    | nil => simp at hp
    | cons q pv =>
      obtain ⟨j, v⟩ := q
      simp only [List.map_cons, List.cons.injEq, Prod.mk.injEq] at hp
      obtain ⟨⟨rfl, hx⟩, hp⟩ := hp
      simp only [fillS] at h
      cases hpl : place i with
      | none => simp [hpl] at h
      | some os =>
        obtain ⟨off, size⟩ := os
        cases hc : cellsS x with
        | none => simp [hpl, hc] at h
        | some cs =>
          simp only [hpl, hc, Option.bind_some] at h
          split at h
          case isFalse => simp at h
          case isTrue hcond =>
            simp only [Bool.and_eq_true] at hcond
            have h1 := Nat.eq_of_beq_eq_true hcond.1
            have h2 := Nat.le_of_ble_eq_true hcond.2
            have hcs := cellsS_den hc hx
            have hlen := denL_length hd
            have hlc := denL_length hcs
            have hsz : v.cells.size = size := by have : v.cells.toList.length = size := by omega
                                                 simpa using this
            have hll : v.cells.toList.length = size := by simpa using hsz
            obtain ⟨o, ho, hdo⟩ := fillS_run (l := l.take off ++ (v.cells.toList ++ l.drop (off + size))) (pv := pv) h
              (denL_append (denL_take off hd) (denL_append hcs (denL_drop (off + size) hd))) hp
            refine ⟨o, ?_, hdo⟩
            rw [← ho]
            simp only [Instr.fill, hpl]
            rw [if_neg (by simp; omega)]
            congr 1
            have e := foldl_lay v.cells.toList off l (by omega)
            rw [hll] at e
            rw [← e, ← Array.foldl_toList]
            congr 1
            simp

theorem parts_map {ps : List (Nat × Operand)} (hx : ∀ p ∈ ps, (sval tm p.2).den ρ = some (r p.2)) :
    ((ps.map fun (p : Nat × Operand) => (p.1, sval tm p.2)).map fun x => (x.1, x.2.den ρ)) = (ps.map fun (p : Nat × Operand) => (p.1, r p.2)).map (fun x => (x.1, some x.2)) := by
  simp only [List.map_map]
  apply List.map_congr_left
  intro p hp
  simp [hx p hp]

theorem eqGuard_in {t : Nat} {x y : Operand} {a b : Value} (hc : isConst x = true ∨ isConst y = true)
    (hag : (∀ cs, a ≠ .agg cs) ∨ (∀ cs, b ≠ .agg cs)) (op : BinOp) (w : World) : (eqGuard op t x y a b).run P w = .ok () w := by
  cases op <;> simp only [eqGuard, Bool.not_false, Bool.not_true, Bool.false_eq_true, if_true, if_false, Sem.run_pure]
  all_goals
    split
    · rcases hc with hc | hc
      · cases x <;> simp [isConst] at hc
        simp
      · cases y <;> simp [isConst] at hc
        simp
    · rcases hag with h | h
      · exact absurd rfl (h _)
      · exact absurd rfl (h _)
    · rfl

set_option maxHeartbeats 1000000 in
theorem nil_right {d : TypeDesc} {x n : SV} {v u : Value} {c : Bool} (h : nilTest d x = some c) (hd : x.den ρ = some v) {t : Nat} (hu : P.underlying t = some d)
    (hn : isNilS n = true) (hnd : n.den ρ = some u) (hnn : nilTest d n = some true) (w : World) (k : Nat) :
    (Op.equalIn (k + 1) t v u).run P w = .ok c w := by
  simp only [Op.equalIn, Sem.run_bind, run_und hu, Result.andThen_ok]
  unfold nilTest at h hnn
  split at h <;> simp only [Option.some.injEq, reduceCtorEq] at h <;> subst h
  all_goals
    split at hnn <;> simp_all only [Option.some.injEq, reduceCtorEq, Bool.false_eq_true, isNilS]
  all_goals
    simp only [SV.den, Option.some.injEq, Option.map_eq_some_iff] at hd hnd
  all_goals subst hnd
  all_goals first
    | (subst hd; rfl)
    | (split at hd
       · simp only [Option.map_eq_some_iff, Option.some.injEq] at hd; obtain ⟨z, hz, rfl⟩ := hd; rfl
       · cases hd)
    | (obtain ⟨z, hz, rfl⟩ := hd; rfl)

set_option maxHeartbeats 1000000 in
theorem nil_left {d : TypeDesc} {x n : SV} {v u : Value} {c : Bool} (h : nilTest d x = some c) (hd : x.den ρ = some v) {t : Nat} (hu : P.underlying t = some d)
    (hn : isNilS n = true) (hnd : n.den ρ = some u) (hnn : nilTest d n = some true) (w : World) (k : Nat) :
    (Op.equalIn (k + 1) t u v).run P w = .ok c w := by
  simp only [Op.equalIn, Sem.run_bind, run_und hu, Result.andThen_ok]
  unfold nilTest at h hnn
  split at h <;> simp only [Option.some.injEq, reduceCtorEq] at h <;> subst h
  all_goals
    split at hnn <;> simp_all only [Option.some.injEq, reduceCtorEq, Bool.false_eq_true, isNilS]
  all_goals
    simp only [SV.den, Option.some.injEq, Option.map_eq_some_iff] at hd hnd
  all_goals subst hnd
  all_goals first
    | (subst hd; rfl)
    | (split at hd
       · simp only [Option.map_eq_some_iff, Option.some.injEq] at hd; obtain ⟨z, hz, rfl⟩ := hd; rfl
       · cases hd)
    | (obtain ⟨z, hz, rfl⟩ := hd; rfl)

theorem nilS_not_agg {n : SV} {u : Value} (hn : isNilS n = true) (hnd : n.den ρ = some u) : ∀ cs, u ≠ .agg cs := by
  cases n <;> simp only [isNilS, Bool.false_eq_true] at hn <;> simp only [SV.den, Option.some.injEq] at hnd <;> subst hnd <;> simp

theorem seql_run {t : Nat} {x y : Operand} {a b : SV} {v u : Value} {c : Bool} (h : seql P t (isConst x) (isConst y) a b = some c)
    (ha : a.den ρ = some v) (hb : b.den ρ = some u) (w : World) :
    (∀ op, (eqGuard op t x y v u).run P w = .ok () w) ∧ (Op.equal t v u).run P w = .ok c w := by
  unfold seql at h
  split at h
  case h_2 => simp at h
  case h_1 d hu =>
    split at h
    case isFalse => simp at h
    case isTrue hc =>
      have hc' : isConst x = true ∨ isConst y = true := by simpa using hc
      split at h
      · rename_i hn
        split at h
        · rename_i hnn
          exact ⟨fun op => eqGuard_in hc' (.inr (nilS_not_agg hn hb)) op w, nil_right h ha hu hn hb (by simpa using hnn) w _⟩
        · simp at h
      · split at h
        · rename_i hn
          split at h
          · rename_i hnn
            exact ⟨fun op => eqGuard_in hc' (.inl (nilS_not_agg hn ha)) op w, nil_left h hb hu hn ha (by simpa using hnn) w _⟩
          · simp at h
        · simp at h

end
end Go.Rl
