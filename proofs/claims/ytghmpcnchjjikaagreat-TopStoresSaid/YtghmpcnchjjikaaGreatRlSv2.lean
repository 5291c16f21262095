/-
  What the symbolic operations say is what the operations do.
-/
import Derived.Test.YtghmpcnchjjikaaGreatRlSv
set_option linter.all false
set_option linter.unusedVariables false
set_option linter.unusedSimpArgs false
set_option linter.unnecessarySimpa false
namespace Go.Rl
open Go

theorem denL_length {ρ : Rho} : ∀ {l : List SV} {vs : List Value}, SV.denL ρ l = some vs → vs.length = l.length
  | [], vs, h => by simp [SV.denL] at h; subst h; rfl
  | x :: r, vs, h => by
    simp only [SV.denL] at h
    cases hx : SV.den ρ x with
    | none => simp [hx] at h
    | some y =>
      cases hr : SV.denL ρ r with
      | none => simp [hx, hr] at h
      | some l => simp [hx, hr] at h; subst h; simp [denL_length hr]

theorem denL_cons {ρ : Rho} {x : SV} {r : List SV} {vs : List Value} (h : SV.denL ρ (x :: r) = some vs) :
    ∃ v us, vs = v :: us ∧ SV.den ρ x = some v ∧ SV.denL ρ r = some us := by
  simp only [SV.denL] at h
  cases hx : SV.den ρ x with
  | none => simp [hx] at h
  | some y =>
    cases hr : SV.denL ρ r with
    | none => simp [hx, hr] at h
    | some l => simp [hx, hr] at h; exact ⟨y, l, h.symm, rfl, rfl⟩

theorem denL_mk {ρ : Rho} {x : SV} {r : List SV} {v : Value} {us : List Value} (hx : SV.den ρ x = some v) (hr : SV.denL ρ r = some us) :
    SV.denL ρ (x :: r) = some (v :: us) := by simp [SV.denL, hx, hr]

theorem denL_get {ρ : Rho} : ∀ {l : List SV} {vs : List Value} (_ : SV.denL ρ l = some vs) {i : Nat} {x : SV}, l[i]? = some x → ∃ v, vs[i]? = some v ∧ SV.den ρ x = some v
  | [], vs, h, i, x, hi => by simp at hi
  | y :: r, vs, h, i, x, hi => by
    obtain ⟨v, us, rfl, hv, hu⟩ := denL_cons h
    cases i with
    | zero => simp at hi; subst hi; exact ⟨v, rfl, hv⟩
    | succ i => exact denL_get hu (by simpa using hi)

theorem denL_append {ρ : Rho} : ∀ {l m : List SV} {vs us : List Value}, SV.denL ρ l = some vs → SV.denL ρ m = some us → SV.denL ρ (l ++ m) = some (vs ++ us)
  | [], m, vs, us, h, hm => by simp [SV.denL] at h; subst h; simpa using hm
  | x :: r, m, vs, us, h, hm => by
    obtain ⟨v, ws, rfl, hv, hw⟩ := denL_cons h
    exact denL_mk hv (denL_append hw hm)

theorem denL_take {ρ : Rho} : ∀ {l : List SV} {vs : List Value} (n : Nat), SV.denL ρ l = some vs → SV.denL ρ (l.take n) = some (vs.take n)
  | l, vs, 0, _ => by simp [SV.denL]
  | [], vs, n + 1, h => by simp [SV.denL] at h; subst h; simp [SV.denL]
  | x :: r, vs, n + 1, h => by
    obtain ⟨v, ws, rfl, hv, hw⟩ := denL_cons h
    exact denL_mk hv (denL_take n hw)

theorem denL_drop {ρ : Rho} : ∀ {l : List SV} {vs : List Value} (n : Nat), SV.denL ρ l = some vs → SV.denL ρ (l.drop n) = some (vs.drop n)
  | l, vs, 0, h => by simpa using h
  | [], vs, n + 1, h => by simp [SV.denL] at h; subst h; simp [SV.denL]
  | x :: r, vs, n + 1, h => by
    obtain ⟨v, ws, rfl, hv, hw⟩ := denL_cons h
    simpa using denL_drop n hw

/-- More blocks have names. -/
def Rho.le (ρ ρ' : Rho) : Prop := ∀ n b, ρ n = some b → ρ' n = some b
theorem Rho.le_refl (ρ : Rho) : ρ.le ρ := fun _ _ h => h
theorem Rho.le_trans {a b c : Rho} (h : a.le b) (k : b.le c) : a.le c := fun n x hx => k n x (h n x hx)

mutual
theorem den_mono {ρ ρ' : Rho} (h : ρ.le ρ') : ∀ {x : SV} {v : Value}, SV.den ρ x = some v → SV.den ρ' x = some v
  | .v x, v, hx | .b x, v, hx | .i _ _, v, hx | .s x, v, hx | .np, v, hx | .ni, v, hx | .nf, v, hx | .nsl, v, hx => by simpa [SV.den] using hx
  | .so n off len cap lo, v, hx => by
    simp only [SV.den] at hx ⊢
    split at hx
    case isFalse => cases hx
    case isTrue hl =>
      rw [if_pos hl]
      cases hn : ρ n with
      | none => simp [hn] at hx
      | some b => rw [h n b hn]; simpa [hn] using hx
  | .p n off, v, hx | .sl n off _ _, v, hx | .mp n, v, hx => by
    simp only [SV.den] at hx ⊢
    cases hn : ρ n with
    | none => simp [hn] at hx
    | some b => rw [h n b hn]; simpa [hn] using hx
  | .fn f cs, v, hx | .fb f cs, v, hx | .ag cs, v, hx | .tp cs, v, hx => by
    simp only [SV.den] at hx ⊢
    cases hc : SV.denL ρ cs with
    | none => simp [hc] at hx
    | some l => rw [denL_mono h hc]; simpa [hc] using hx
  | .ifc t y, v, hx => by
    simp only [SV.den] at hx ⊢
    cases hc : SV.den ρ y with
    | none => simp [hc] at hx
    | some l => rw [den_mono h hc]; simpa [hc] using hx
theorem denL_mono {ρ ρ' : Rho} (h : ρ.le ρ') : ∀ {l : List SV} {vs : List Value}, SV.denL ρ l = some vs → SV.denL ρ' l = some vs
  | [], vs, hx => by simpa [SV.denL] using hx
  | x :: r, vs, hx => by
    obtain ⟨v, us, rfl, hv, hu⟩ := denL_cons hx
    exact denL_mk (den_mono h hv) (denL_mono h hu)
end

theorem ofV0_den (ρ : Rho) (x : Value) : (ofV0 x).den ρ = some x := by
  unfold ofV0; split <;> simp [SV.den]

theorem ofV0_denL (ρ : Rho) : ∀ l : List Value, SV.denL ρ (l.map ofV0) = some l
  | [] => by simp [SV.denL]
  | x :: r => by simp [SV.denL, ofV0_den, ofV0_denL ρ r]

theorem ofV_den (ρ : Rho) (x : Value) : (ofV x).den ρ = some x := by
  unfold ofV; split <;> simp [SV.den, ofV0_den, ofV0_denL]

theorem denL_map {ρ : Rho} {α : Type} (f : α → SV) (g : α → Value) : ∀ l : List α, (∀ x ∈ l, (f x).den ρ = some (g x)) → SV.denL ρ (l.map f) = some (l.map g)
  | [], _ => by simp [SV.denL]
  | x :: r, h => by
    rw [List.map_cons, List.map_cons]
    exact denL_mk (h x (by simp)) (denL_map f g r fun y hy => h y (by simp [hy]))

/-! ### memory -/

def alive (H : List SO) (n : Nat) : Prop := ∃ o, H[n]? = some o ∧ o ≠ .dead

structure Holds (ρ : Rho) (H : List SO) (w : World) : Prop where
  row : ∀ n live ks rest T, H[n]? = some (.row live ks rest T) →
    (live = true → ∃ b, ρ n = some b) ∧ ∀ b, ρ n = some b → ∃ vs, SV.denL ρ ks = some vs ∧ w.heap[b]? = some (.cells (vs ++ rest).toArray T (0, 0))
  obj : ∀ n o, H[n]? = some (.obj o) → ∃ b, ρ n = some b ∧ w.heap[b]? = some o.obj
  inj : ∀ n m b, alive H n → alive H m → ρ n = some b → ρ m = some b → n = m
  lt : ∀ n b, ρ n = some b → n < H.length ∧ b < w.heap.size

theorem Holds.live {ρ : Rho} {H : List SO} {w : World} (h : Holds ρ H w) {n : Nat} {ks : List SV} (hk : H[n]?.bind ksOf = some ks) :
    ∃ rest T b vs, H[n]? = some (.row true ks rest T) ∧ ρ n = some b ∧ SV.denL ρ ks = some vs ∧ w.heap[b]? = some (.cells (vs ++ rest).toArray T (0, 0)) := by
  cases hn : H[n]? with
  | none => simp [hn] at hk
  | some o =>
    rw [hn] at hk
    cases o with
    | row l k r T =>
      cases l with
      | false => simp [ksOf] at hk
      | true =>
        simp [ksOf] at hk; subst hk
        obtain ⟨h1, h2⟩ := h.row n _ _ _ _ hn
        obtain ⟨b, hb⟩ := h1 rfl
        obtain ⟨vs, hv, hc⟩ := h2 b hb
        exact ⟨r, T, b, vs, rfl, hb, hv, hc⟩
    | dead => simp [ksOf] at hk
    | obj o => simp [ksOf] at hk

theorem cell_row {w : World} {b : Nat} {c : List Value} {T : TypeId} {fr : Nat × Nat} (h : w.heap[b]? = some (.cells c.toArray T fr)) (off : Nat) :
    w.cell? ⟨b, off, none⟩ = c[off]? := by simp [World.cell?, h]

section
variable {P : Program} {ρ : Rho} {H : List SO} {w : World}

theorem tsz_info {t sz : Nat} (h : tsz P t = some sz) : ∃ i, P.info? t = some i ∧ i.size = sz := by
  unfold tsz at h
  cases hi : P.info? t with
  | none => simp [hi] at h
  | some i => simp [hi] at h; exact ⟨i, rfl, h⟩

theorem run_sizeOf' {t sz : Nat} (h : tsz P t = some sz) (w : World) : (sizeOf t).run P w = .ok sz w := by
  obtain ⟨i, hi, rfl⟩ := tsz_info h
  simp [sizeOf, typeInfo, hi]

theorem isAg_und {t : Nat} {b : Bool} (h : isAg P t = some b) : (Go.isAgg t).run P w = .ok b w := by
  unfold isAg at h
  unfold Go.isAgg
  cases hu : P.underlying t with
  | none => simp [hu] at h
  | some d =>
    have : (underlying t).run P w = .ok d w := by simp [underlying, hu]
    simp only [Sem.run_bind, this, Result.andThen_ok]
    rw [hu] at h
    cases d <;> simp at h <;> subst h <;> rfl

theorem run_und {t : Nat} {d : TypeDesc} (h : P.underlying t = some d) (w : World) : (underlying t).run P w = .ok d w := by simp [underlying, h]

theorem add_off (b off n : Nat) : (⟨b, off, none⟩ : Addr).add n = ⟨b, off + n, none⟩ := by
  unfold Addr.add; split
  · rename_i h; subst h; rfl
  · rfl

theorem run_loadVar {t n off : Nat} {x : SV} (hH : Holds ρ H w) (h : sload P H t n off = some x) :
    ∃ b v, ρ n = some b ∧ (loadVar t ⟨b, off, none⟩).run P w = .ok v w ∧ x.den ρ = some v := by
  unfold sload at h
  cases ha : isAg P t with
  | none => simp [ha] at h
  | some ag =>
    cases hz : tsz P t with
    | none => simp [ha, hz] at h
    | some sz =>
      cases hk : H[n]?.bind ksOf with
      | none => simp [ha, hz, hk] at h
      | some ks =>
        obtain ⟨rest, T, b, vs, hrow, hb, hv, hc⟩ := hH.live hk
        simp only [ha, hz, hk, Option.bind_some] at h
        have hlen := denL_length hv
        refine ⟨b, ?_⟩
        cases ag with
        | false =>
          simp only at h
          obtain ⟨v, hvv, hd⟩ := denL_get hv h
          refine ⟨v, hb, ?_, hd⟩
          have hcell : w.cell? ⟨b, off, none⟩ = some v := by
            rw [cell_row hc, List.getElem?_append_left (by rw [List.getElem?_eq_some_iff] at hvv; exact hvv.1)]; exact hvv
          simp only [loadVar, Sem.run_bind, isAg_und ha, Result.andThen_ok, Bool.false_eq_true, if_false, Go.load, Sem.run, hcell]
        | true =>
          simp only at h
          split at h
          case isFalse => simp at h
          case isTrue hle =>
            have hle' := Nat.le_of_ble_eq_true hle
            simp only [Option.some.injEq] at h
            subst h
            refine ⟨.agg ((vs.drop off).take sz).toArray, hb, ?_, ?_⟩
            · have hll : ((vs.drop off).take sz).length = sz := by simp; omega
              have hl := run_loadCells_list (P := P) w ⟨b, off, none⟩ ((vs.drop off).take sz) (fun j v hj => by
                rw [add_off, cell_row hc]
                have hj' : j < sz := by have := (List.getElem?_eq_some_iff.1 hj).1; omega
                rw [List.getElem?_take_of_lt hj', List.getElem?_drop] at hj
                rw [List.getElem?_append_left (by have := (List.getElem?_eq_some_iff.1 hj).1; omega)]
                exact hj)
              rw [hll] at hl
              simp only [loadVar, Sem.run_bind, isAg_und ha, Result.andThen_ok, if_true, run_sizeOf' hz, hl, Sem.run_pure]
            · simp only [SV.den, denL_take sz (denL_drop off hv)]; rfl

end
end Go.Rl
