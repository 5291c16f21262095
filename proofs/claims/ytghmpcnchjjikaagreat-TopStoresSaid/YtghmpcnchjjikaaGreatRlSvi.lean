/-
  Assertions, and calls of methods: what the symbolic operations say is what the operations do.
-/
import Derived.Test.YtghmpcnchjjikaaGreatRlSvm
set_option linter.all false
set_option linter.unusedVariables false
set_option linter.unusedSimpArgs false
set_option linter.unnecessarySimpa false
namespace Go.Rl
open Go

section
variable {P : Program} {ρ : Rho} {w : World}

theorem sassert_run {x y : SV} {v : Value} {t : TypeId} (h : sassert P t x = some y) (hx : x.den ρ = some v) (xT : TypeId) (w : World) :
    ∃ q, (Instr.typeAssert v xT t true).run P w = .ok q w ∧ y.den ρ = some q := by
  have zero : ∀ z, zeroS P t = some z → ∃ zv, (zeroValue t).run P w = .ok zv w ∧ (SV.tp [z, .b false]).den ρ = some (.tuple #[zv, .bool false]) := by
    intro z hz
    obtain ⟨zv, h1, h2, _⟩ := run_zero (ρ := ρ) hz w
    exact ⟨zv, h1, by simp [SV.den, SV.denL, h2]⟩
  unfold sassert at h
  split at h
  · rename_i want a y' hu
    simp only [SV.den, Option.map_eq_some_iff] at hx
    obtain ⟨z, hz, rfl⟩ := hx
    cases hi : P.info? a with
    | none => rw [hi] at h; cases h
    | some i =>
      rw [hi] at h
      simp only [Option.bind_some] at h
      split at h
      · rename_i hl
        simp only [Option.some.injEq] at h
        subst h
        exact ⟨.tuple #[.iface a z, .bool true], run_typeAssert_has (by exact hu) hi hl, by simp [SV.den, SV.denL, hz]⟩
      · rename_i hl
        simp only [Option.map_eq_some_iff] at h
        obtain ⟨zz, hzz, rfl⟩ := h
        obtain ⟨zv, h1, h2⟩ := zero zz hzz
        obtain ⟨m, hm⟩ := missingMethod_some (want := want) (got := i.methods) (by rw [hl]; simp)
        exact ⟨_, by simp [Instr.typeAssert, run_und hu, typeInfo, hi, hm, h1], h2⟩
  · rename_i d hu
    simp only [Option.map_eq_some_iff] at h
    obtain ⟨zz, hzz, rfl⟩ := h
    obtain ⟨zv, h1, h2⟩ := zero zz hzz
    simp only [SV.den, Option.some.injEq] at hx
    subst hx
    refine ⟨_, ?_, h2⟩
    cases d <;> simp [Instr.typeAssert, run_und hu, h1]
  · rename_i d a y' hne hu
    simp only [SV.den, Option.map_eq_some_iff] at hx
    obtain ⟨z, hz, rfl⟩ := hx
    split at h
    · rename_i hab
      have := Nat.eq_of_beq_eq_true hab
      subst this
      simp only [Option.some.injEq] at h
      subst h
      refine ⟨.tuple #[z, .bool true], ?_, by simp [SV.den, SV.denL, hz]⟩
      cases d <;> first | exact (hne _ rfl).elim | simp [Instr.typeAssert, run_und hu] | (exfalso; simp_all)
    · rename_i hab
      have hne2 : a ≠ t := fun e => by subst e; simp at hab
      simp only [Option.map_eq_some_iff] at h
      obtain ⟨zz, hzz, rfl⟩ := h
      obtain ⟨zv, h1, h2⟩ := zero zz hzz
      refine ⟨_, ?_, h2⟩
      cases d <;> first | exact (hne _ rfl).elim | simp [Instr.typeAssert, run_und hu, h1, hne2] | (exfalso; simp_all)
  · cases h

theorem smethod_run {t : TypeId} {name : String} {f : FuncId} (h : smethod P t name = some f) (v : Value) (w : World) : (method (P.types.size + Made.depth) t v name).run P w = .ok (f, v) w := by
  unfold smethod at h
  cases hi : P.info? t with
  | none => rw [hi] at h; cases h
  | some i =>
    rw [hi] at h
    simp only [Option.bind_some] at h
    cases hm : i.methods.find? (·.name == name) with
    | none => rw [hm] at h; cases h
    | some m =>
      rw [hm] at h
      simp only [Option.bind_some] at h
      obtain ⟨n, hn⟩ : ∃ n, P.types.size + Made.depth = n + 1 := ⟨P.types.size + Made.depth - 1, by
        have : 0 < Made.depth := by decide
        omega⟩
      rw [hn]
      split at h
      · rename_i e hp hf hu
        simp only [Option.some.injEq] at h
        subst h
        simp [method, typeInfo, hi, hm, hp, hf, follow, receiverAt, run_und hu, Place.get]
      · cases h
      · rename_i ff d h1 h2 h3 h4
        have hne : ∀ e, d = TypeDesc.pointer e → False := by first | exact h1 | exact h2 | exact h3 | exact h4
        have hp : m.path.toList = [] := by first | exact h1 | exact h2 | exact h3 | exact h4
        have hf : m.func = some (ff, false) := by first | exact h1 | exact h2 | exact h3 | exact h4
        have hu : P.underlying t = some d := by first | exact h1 | exact h2 | exact h3 | exact h4
        simp only [Option.some.injEq] at h
        subst h
        cases d <;> first | exact (hne _ rfl).elim | simp [method, typeInfo, hi, hm, hp, hf, follow, receiverAt, run_und hu, Place.get] | (exfalso; simp_all)
      · cases h

end
end Go.Rl
