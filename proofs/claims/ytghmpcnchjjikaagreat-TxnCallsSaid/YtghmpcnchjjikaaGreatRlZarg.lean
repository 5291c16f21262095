/-
  'TxnCalls': what comes in.
-/
import Derived.Test.YtghmpcnchjjikaaGreatRlZjoin
import Derived.Test.YtghmpcnchjjikaaGreatRlSx
set_option linter.all false
set_option linter.unusedVariables false
set_option linter.unusedSimpArgs false
set_option linter.unnecessarySimpa false
open Go Go.Rl
namespace Go.Rl.Z
set_option maxRecDepth 100000

section
variable {H : Type} {enc : TypeId × Value → H} {w : World} {spare : Nat → Bool} {held : Bool}

theorem int_at {fuel : Nat} {t : TypeId} {cs : List Value} {x : DataW H × List MemPlace} (i : Nat) (hk : kindAt Pr 4 t i = some (.i .i64)) (h : DataW.trod enc Pr w 0 spare held fuel t cs = some x) :
    ∃ n, cs[i]? = some (.int .i64 n) ∧ (Lit.int .i64 n).wf = true := by
  obtain ⟨v, hv, n, rfl, hw⟩ := kindAt_ok hk h
  exact ⟨n, hv, hw⟩
theorem bool_at {fuel : Nat} {t : TypeId} {cs : List Value} {x : DataW H × List MemPlace} (i : Nat) (hk : kindAt Pr 4 t i = some .b) (h : DataW.trod enc Pr w 0 spare held fuel t cs = some x) :
    ∃ n, cs[i]? = some (.bool n) := by
  obtain ⟨v, hv, n, rfl⟩ := kindAt_ok hk h
  exact ⟨n, hv⟩
theorem str_at {fuel : Nat} {t : TypeId} {cs : List Value} {x : DataW H × List MemPlace} (i : Nat) (hk : kindAt Pr 4 t i = some .s) (h : DataW.trod enc Pr w 0 spare held fuel t cs = some x) :
    ∃ n : ByteArray, cs[i]? = some (.string n) ∧ n.size ≤ maxLen := by
  obtain ⟨v, hv, n, rfl, hw⟩ := kindAt_ok hk h
  exact ⟨n, hv, hw⟩

theorem list_ext6 {cs : List Value} {a b c d e f : Value} (hl : cs.length = 6) (h0 : cs[0]? = some a) (h1 : cs[1]? = some b) (h2 : cs[2]? = some c) (h3 : cs[3]? = some d) (h4 : cs[4]? = some e) (h5 : cs[5]? = some f) : cs = [a, b, c, d, e, f] := by
  match cs, hl with
  | [_, _, _, _, _, _], _ => simp_all

theorem list_ext9 {cs : List Value} {a b c d e f g h i : Value} (hl : cs.length = 9) (h0 : cs[0]? = some a) (h1 : cs[1]? = some b) (h2 : cs[2]? = some c) (h3 : cs[3]? = some d) (h4 : cs[4]? = some e) (h5 : cs[5]? = some f) (h6 : cs[6]? = some g) (h7 : cs[7]? = some h) (h8 : cs[8]? = some i) :
    cs = [a, b, c, d, e, f, g, h, i] := by
  match cs, hl with
  | [_, _, _, _, _, _, _, _, _], _ => simp_all

theorem lim_of {fuel : Nat} {cs : List Value} {x : DataW H × List MemPlace} (hl : cs.length = 6) (h : DataW.trod enc Pr w 0 spare held fuel 23 cs = some x) :
    ∃ a b t r h c, cs = [.int .i64 a, .int .i64 b, .int .i64 t, .int .i64 r, .int .i64 h, .int .i64 c] := by
  obtain ⟨a, h0, _⟩ := int_at 0 (by kernel_rfl) h
  obtain ⟨b, h1, _⟩ := int_at 1 (by kernel_rfl) h
  obtain ⟨c, h2, _⟩ := int_at 2 (by kernel_rfl) h
  obtain ⟨d, h3, _⟩ := int_at 3 (by kernel_rfl) h
  obtain ⟨e, h4, _⟩ := int_at 4 (by kernel_rfl) h
  obtain ⟨f, h5, _⟩ := int_at 5 (by kernel_rfl) h
  exact ⟨a, b, c, d, e, f, list_ext6 hl h0 h1 h2 h3 h4 h5⟩

theorem act_of {fuel : Nat} {cs : List Value} {x : DataW H × List MemPlace} (hl : cs.length = 9) (h : DataW.trod enc Pr w 0 spare held fuel 48 cs = some x) :
    ∃ k rd ky vl lo hi ub lm rv, cs = actL k rd ky vl lo hi ub lm rv := by
  obtain ⟨a, h0, _⟩ := int_at 0 (by kernel_rfl) h
  obtain ⟨b, h1⟩ := bool_at 1 (by kernel_rfl) h
  obtain ⟨c, h2, _⟩ := str_at 2 (by kernel_rfl) h
  obtain ⟨d, h3, _⟩ := str_at 3 (by kernel_rfl) h
  obtain ⟨e, h4, _⟩ := str_at 4 (by kernel_rfl) h
  obtain ⟨f, h5, _⟩ := str_at 5 (by kernel_rfl) h
  obtain ⟨g, h6⟩ := bool_at 6 (by kernel_rfl) h
  obtain ⟨i, h7, _⟩ := int_at 7 (by kernel_rfl) h
  obtain ⟨j, h8⟩ := bool_at 8 (by kernel_rfl) h
  exact ⟨a, b, c, d, e, f, g, i, j, list_ext9 hl h0 h1 h2 h3 h4 h5 h6 h7 h8⟩

theorem add_add {a : Addr} (n : Nat) {j : Nat} (hj : 0 < j) : (a.add n).add j = ⟨a.block, a.off + n + j, none⟩ := by
  unfold Addr.add
  rw [if_neg (by omega)]
  split
  · subst n; rfl
  · rfl


/-- Cells that stand in memory one behind the other. -/
theorem row_of {a : Addr} {n m : Nat} {cs : List Value} (hm : 0 < m) (h : w.cells? 0 (a.add n) m = some cs) :
    (a.add n).spot = none ∧ ∃ row T fz, w.heap[a.block]? = some (.cells row T fz) ∧ (row.toList.drop (a.off + n)).take m = cs := by
  obtain ⟨_, hl, hc⟩ := World.cells?_some h
  have hsp : (a.add n).spot = none := by
    have h0 := hc 0 hm
    have : cs[0]? = some (cs[0]'(by omega)) := List.getElem?_eq_getElem _
    rw [this] at h0
    have := World.cell?_spot h0
    simpa [Addr.add] using this
  have hblk : (a.add n).block = a.block ∧ (a.add n).off = a.off + n := by
    unfold Addr.add
    split
    · subst n; exact ⟨rfl, rfl⟩
    · exact ⟨rfl, rfl⟩
  have hcell : ∀ j, w.cell? ((a.add n).add j) = (match w.heap[a.block]? with | some (.cells c _ _) => c[a.off + n + j]? | _ => none) := by
    intro j
    obtain ⟨e1, e2, e3⟩ : ((a.add n).add j).block = a.block ∧ ((a.add n).add j).off = a.off + n + j ∧ ((a.add n).add j).spot = none := by
      by_cases hj : j = 0
      · subst hj
        have : (a.add n).add 0 = a.add n := by simp [Addr.add]
        rw [this]
        exact ⟨hblk.1, by rw [hblk.2]; rfl, hsp⟩
      · have : (a.add n).add j = ⟨(a.add n).block, (a.add n).off + j, none⟩ := by
          show (if j = 0 then _ else _) = _
          rw [if_neg hj]
        rw [this]
        exact ⟨hblk.1, by show (a.add n).off + j = _; rw [hblk.2], rfl⟩
    unfold World.cell?
    rw [e1, e2, e3]
    cases w.heap[a.block]? with
    | none => rfl
    | some o => cases o <;> rfl
  refine ⟨hsp, ?_⟩
  have h0 := hc 0 hm
  rw [hcell, List.getElem?_eq_getElem (by omega)] at h0
  split at h0
  case h_2 => cases h0
  case h_1 c T fz hb =>
    refine ⟨c, T, fz, hb, ?_⟩
    apply List.ext_getElem?
    intro j
    rw [List.getElem?_take]
    split
    · rename_i hj
      have := hc j hj
      rw [hcell, hb] at this
      rw [List.getElem?_drop, ← this]
      simp
    · rw [List.getElem?_eq_none (by omega)]

theorem acts_of {fuel : Nat} {x : DataW H × List MemPlace} {base : Option Addr} {n cap : Nat} (h : DataW.trod enc Pr w 0 spare held fuel 24 [.slice base n cap] = some x) : Acts w base n := by
  obtain ⟨v, hv, hok⟩ := kindAt_ok (d := 1) (i := 0) (k := .sl 48) (by kernel_rfl) h
  simp only [List.getElem?_cons_zero, Option.some.injEq] at hv
  subst hv
  rcases hok with hnil | ⟨a, len, cap', hv, _, _, _, hel⟩
  · simp only [Value.slice.injEq] at hnil
    exact .inl hnil.2.1
  · simp only [Value.slice.injEq] at hv
    obtain ⟨rfl, rfl, rfl⟩ := hv
    have h9 : Pr.cellsOf 48 = 9 := by kernel_rfl
    rw [h9] at hel
    by_cases hn : n = 0
    · exact .inl hn
    · refine .inr ⟨a, rfl, ?_, fun i hi => ?_⟩
      · obtain ⟨cs', m, y, hc, _⟩ := hel 0 (by omega)
        have := (row_of (by decide) hc).1
        simpa [Addr.add] using this
      · obtain ⟨cs', m, y, hc, ht⟩ := hel i hi
        obtain ⟨_, row, T, fz, hb, hr⟩ := row_of (by decide) hc
        obtain ⟨k, rd, ky, vl, lo, hi', ub, lm, rv, rfl⟩ := act_of (World.cells?_some hc).2.1 ht
        exact ⟨row, T, fz, k, rd, ky, vl, lo, hi', ub, lm, rv, hb, hr⟩
end
end Go.Rl.Z
