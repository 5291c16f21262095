/-
  What came in, read cell by cell.
-/
import Derived.ChangeArms
import Derived.Deep.Slices
set_option linter.all false
set_option linter.unusedVariables false
set_option linter.unusedSimpArgs false
set_option linter.unnecessarySimpa false
namespace Go.Rl
open Go

/-- What a cell is. -/
inductive CK where
  | b
  | i (k : IntKind)
  | s
  | sl (e : TypeId)

/-- The field in which a cell lies. -/
def fieldAt (P : Program) (i : Nat) : List Field → Option Field
  | [] => none
  | f :: r => match Nat.ble f.offset i && Nat.blt i (f.offset + P.cellsOf f.type) with | true => some f | false => fieldAt P i r

/-- What a type's cell is. -/
def kindAt (P : Program) : Nat → TypeId → Nat → Option CK
  | 0, _, _ => none
  | d + 1, t, i =>
    match P.underlying t with
    | some .bool => (match i with | 0 => some .b | _ => none)
    | some (.int k) => (match i with | 0 => some (.i k) | _ => none)
    | some .string => (match i with | 0 => some .s | _ => none)
    | some (.slice e) => (match i with | 0 => some (.sl e) | _ => none)
    | some (.struct fs) => (fieldAt P i fs.toList).bind fun f => kindAt P d f.type (i - f.offset)
    | _ => none

section
variable {H : Type} {enc : TypeId × Value → H} {P : Program} {w : World} {base : Nat} {spare : Nat → Bool} {held : Bool}

/-- What a cell that came in is. -/
def CK.ok (enc : TypeId × Value → H) (P : Program) (w : World) (base : Nat) (spare : Nat → Bool) (held : Bool) : CK → Value → Prop
  | .b, v => ∃ x, v = .bool x
  | .i k, v => ∃ n, v = .int k n ∧ (Lit.int k n).wf = true
  | .s, v => ∃ x : ByteArray, v = .string x ∧ x.size ≤ maxLen
  | .sl e, v => v = .slice none 0 0 ∨ ∃ (a : Addr) (len cap : Nat), v = .slice (some a) len cap ∧ base ≤ a.block ∧ len ≤ cap ∧ cap ≤ maxLen ∧
      ∀ i, i < len → ∃ cs' n x, w.cells? base (a.add (i * P.cellsOf e)) (P.cellsOf e) = some cs' ∧ DataW.trod enc P w base spare held n e cs' = some x

theorem fieldAt_spec {P : Program} {i : Nat} : ∀ {fs : List Field} {f : Field}, fieldAt P i fs = some f → ∃ j : Nat, fs[j]? = some f ∧ f.offset ≤ i ∧ i < f.offset + P.cellsOf f.type
  | [], f, h => by cases h
  | g :: r, f, h => by
    simp only [fieldAt] at h
    split at h
    · rename_i hc
      simp only [Option.some.injEq] at h
      subst h
      simp only [Bool.and_eq_true] at hc
      exact ⟨0, rfl, Nat.le_of_ble_eq_true hc.1, by simpa [Nat.blt_eq] using hc.2⟩
    · obtain ⟨j, h1, h2⟩ := fieldAt_spec h
      exact ⟨j + 1, by simpa using h1, h2⟩

theorem kindAt_ok : ∀ {d : Nat} {t : TypeId} {i fuel : Nat} {cs : List Value} {x : DataW H × List MemPlace} {k : CK}, kindAt P d t i = some k → DataW.trod enc P w base spare held fuel t cs = some x →
    ∃ v, cs[i]? = some v ∧ k.ok enc P w base spare held v
  | 0, _, _, _, _, _, _, hk, _ => by cases hk
  | d + 1, t, i, fuel, cs, x, k, hk, h => by
    simp only [kindAt] at hk
    split at hk
    · rename_i hu
      split at hk
      · simp only [Option.some.injEq] at hk
        subst hk
        obtain ⟨b, rfl, _⟩ := DataW.trod_bool hu h
        exact ⟨_, rfl, b, rfl⟩
      · cases hk
    · rename_i q hu
      split at hk
      · simp only [Option.some.injEq] at hk
        subst hk
        obtain ⟨n, rfl, _, hw⟩ := DataW.trod_int hu h
        exact ⟨_, rfl, n, rfl, hw⟩
      · cases hk
    · rename_i hu
      split at hk
      · simp only [Option.some.injEq] at hk
        subst hk
        obtain ⟨s, rfl, _, hs⟩ := DataW.trod_string hu h
        exact ⟨_, rfl, s, rfl, hs⟩
      · cases hk
    · rename_i e hu
      split at hk
      · simp only [Option.some.injEq] at hk
        subst hk
        rcases DataW.trod_slice hu h with ⟨rfl, _⟩ | ⟨a, len, cap, elems, rest, n, _, rfl, _, hb, hl, hm, hlen, hel, _⟩
        · exact ⟨_, rfl, .inl rfl⟩
        · refine ⟨_, rfl, .inr ⟨a, len, cap, rfl, hb, hl, hm, fun i hi => ?_⟩⟩
          have := hel i hi
          have hi' : i < elems.length := by omega
          rw [List.getElem?_eq_getElem hi'] at this
          simp only [Option.bind_eq_some_iff] at this
          obtain ⟨cs', h1, h2⟩ := this
          exact ⟨cs', n, _, h1, h2⟩
      · cases hk
    · rename_i fs hu
      cases hf : fieldAt P i fs.toList with
      | none => rw [hf] at hk; cases hk
      | some f =>
        rw [hf] at hk
        simp only [Option.bind_some] at hk
        obtain ⟨j, h1, h2, h3⟩ := fieldAt_spec hf
        obtain ⟨xs, n, _, _, hl, hlen, hfs⟩ := DataW.trod_struct hu h
        have hfj : fs[j]? = some f := by simpa using h1
        have hj : j < xs.length := by rw [hlen]; exact (Array.getElem?_eq_some_iff.1 hfj).1
        have htr := hfs j f hfj
        rw [List.getElem?_eq_getElem hj] at htr
        obtain ⟨v, hv, hok⟩ := kindAt_ok hk htr
        refine ⟨v, ?_, hok⟩
        rw [List.getElem?_take, if_pos (by omega), List.getElem?_drop] at hv
        rw [← hv]; congr 1; omega
    · cases hk

end
end Go.Rl
