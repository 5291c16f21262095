/-
  'TxnCalls': its paths joined.
-/
import Derived.Test.YtghmpcnchjjikaaGreatRlZlo2
set_option linter.all false
set_option linter.unusedVariables false
set_option linter.unusedSimpArgs false
set_option linter.unnecessarySimpa false
open Go Go.Rl
namespace Go.Rl.Z
set_option maxRecDepth 100000
section
variable (a b t r h c : Int) (n cap : Nat) (ad : Addr) (j : Nat → Value) (i : Int) (k : Int) (rd : Bool) (ky vl lo hi : ByteArray) (ub : Bool) (lm : Int) (rv : Bool)
noncomputable def tK1 : SS := (go (tL3 a b t r h c n cap ad j i k rd ky vl lo hi ub lm rv) [true]).st
theorem q1 : (go (tL3 a b t r h c n cap ad j i k rd ky vl lo hi ub lm rv) [true]).atObs = some [(decide ((ky.size : Int) > 100), true)] := by kernel_rfl
theorem q1c : calleeAt Pr (tK1 a b t r h c n cap ad j i k rd ky vl lo hi ub lm rv) = some (5, []) := by kernel_rfl
theorem q1e : (go (bh (tK1 a b t r h c n cap ad j i k rd ky vl lo hi ub lm rv) (.b true)) []).val = some ([], .b true) := by kernel_rfl
noncomputable def tK2 : SS := (go (tL3 a b t r h c n cap ad j i k rd ky vl lo hi ub lm rv) [false, true]).st
theorem q2 : (go (tL3 a b t r h c n cap ad j i k rd ky vl lo hi ub lm rv) [false, true]).atObs = some [(decide ((vl.size : Int) > 100), true), (decide ((ky.size : Int) > 100), false)] := by kernel_rfl
theorem q2c : calleeAt Pr (tK2 a b t r h c n cap ad j i k rd ky vl lo hi ub lm rv) = some (5, []) := by kernel_rfl
theorem q2e : (go (bh (tK2 a b t r h c n cap ad j i k rd ky vl lo hi ub lm rv) (.b true)) []).val = some ([], .b true) := by kernel_rfl
noncomputable def tK3 : SS := (go (tL3 a b t r h c n cap ad j i k rd ky vl lo hi ub lm rv) [false, false, true]).st
theorem q3 : (go (tL3 a b t r h c n cap ad j i k rd ky vl lo hi ub lm rv) [false, false, true]).atObs = some [(decide ((lo.size : Int) > 100), true), (decide ((vl.size : Int) > 100), false), (decide ((ky.size : Int) > 100), false)] := by kernel_rfl
theorem q3c : calleeAt Pr (tK3 a b t r h c n cap ad j i k rd ky vl lo hi ub lm rv) = some (5, []) := by kernel_rfl
theorem q3e : (go (bh (tK3 a b t r h c n cap ad j i k rd ky vl lo hi ub lm rv) (.b true)) []).val = some ([], .b true) := by kernel_rfl
noncomputable def tK4 : SS := (go (tL3 a b t r h c n cap ad j i k rd ky vl lo hi ub lm rv) [false, false, false, true]).st
theorem q4 : (go (tL3 a b t r h c n cap ad j i k rd ky vl lo hi ub lm rv) [false, false, false, true]).atObs = some [(decide ((hi.size : Int) > 100), true), (decide ((lo.size : Int) > 100), false), (decide ((vl.size : Int) > 100), false), (decide ((ky.size : Int) > 100), false)] := by kernel_rfl
theorem q4c : calleeAt Pr (tK4 a b t r h c n cap ad j i k rd ky vl lo hi ub lm rv) = some (5, []) := by kernel_rfl
theorem q4e : (go (bh (tK4 a b t r h c n cap ad j i k rd ky vl lo hi ub lm rv) (.b true)) []).val = some ([], .b true) := by kernel_rfl
end

noncomputable abbrev CT (w : World) : Ctx := { P := Pr, hm := rmix, f0 := 3, ρ0 := fun _ => none, w0 := w, Q := fun x _ _ => x = .b true }

section
variable {w : World} {I : Imm} {S : SS}
theorem goTo {ds : List Bool} {obs : List (Bool × Bool)} (h : (go S ds).atObs = some obs) (ho : ∀ p ∈ obs, p.1 = p.2) (g : WPs (CT w) I (go S ds).st) : WPs (CT w) I S :=
  WPs.to (C := CT w) rmix stM h ho g
theorem goNTo {ds : List Bool} {obs : List (Bool × Bool)} (h : (goN S ds).atObs = some obs) (ho : ∀ p ∈ obs, p.1 = p.2) (g : WPs (CT w) I (goN S ds).st) : WPs (CT w) I S :=
  WPs.to (C := CT w) rmix stN h ho g
theorem goEnd {ds : List Bool} {obs : List (Bool × Bool)} (h : (go S ds).val = some (obs, .b true)) (ho : ∀ p ∈ obs, p.1 = p.2) : WPs (CT w) I S :=
  WPs.ends (C := CT w) rmix stM h ho rfl
/-- The ends: all is as it should be. -/
theorem awk (h : calleeAt Pr S = some (5, [])) (e : (go (bh S (.b true)) []).val = some ([], .b true)) : WPs (CT w) I S := by
  refine WPs.callIs (C := CT w) (V := .bool true) (.b true) h (fun _ => rfl) (fun ρ w vs hv => ?_) (goEnd e obsN)
  simp only [SV.denL, Option.some.injEq] at hv
  subst hv
  exact awake_calls w
/-- A code is asked for. -/
theorem isk {d c : Int} {r : Bool} (h : calleeAt Pr S = some (10, [.ifc 40 (.i .i64 d), .i .i64 c])) (hr : (d == c) = r) (g : WPs (CT w) I (bh S (.b r))) : WPs (CT w) I S := by
  refine WPs.callIs (C := CT w) (V := .bool r) (.b r) h (fun _ => rfl) (fun ρ w vs hv => ?_) g
  simp only [SV.denL, SV.den, Option.bind_some, Option.map_some, Option.some.injEq] at hv
  subst hv
  rw [← hr]
  exact is_code d c w
end

/-- An act, in memory. -/
def ActAt (w : World) (ad : Addr) (i : Nat) : Prop :=
  ∃ (cs : Array Value) (T : TypeId) (fz : Nat × Nat) (k : Int) (rd : Bool) (ky vl lo hi : ByteArray) (ub : Bool) (lm : Int) (rv : Bool),
    w.heap[ad.block]? = some (.cells cs T fz) ∧ (cs.toList.drop (ad.off + i * 9)).take 9 = actL k rd ky vl lo hi ub lm rv

def Acts (w : World) (base : Option Addr) (n : Nat) : Prop := n = 0 ∨ ∃ ad, base = some ad ∧ ad.spot = none ∧ ∀ i, i < n → ActAt w ad i

theorem addr_add {ad : Addr} (h : ad.spot = none) (m : Nat) : (ad.add m).block = ad.block ∧ (ad.add m).off = ad.off + m ∧ (ad.add m).spot = none := by
  unfold Addr.add
  split
  · subst m; exact ⟨rfl, rfl, h⟩
  · exact ⟨rfl, rfl, rfl⟩

theorem wrap_next (i : Nat) (h : i ≤ 20) : IntKind.i64.wrap ((i : Int) + 1) = ((i + 1 : Nat) : Int) := by
  simp [IntKind.wrap, IntKind.signed, IntKind.bits]
  omega

section
variable (a b t r h c : Int) (n cap : Nat) (w : World)

/-- The last part of a round. -/
theorem tc_tail (ad : Addr) (i : Nat) (hi20 : i ≤ 20) (j : Nat → Value) (k : Int) (rd : Bool) (ky vl lo hi : ByteArray) (ub : Bool) (lm : Int) (rv : Bool) (I : Imm)
    (g : ∀ j', WPs (CT w) I (tH a b t r h c (some ad) n cap j' ((i + 1 : Nat) : Int))) : WPs (CT w) I (tL6 a b t r h c n cap ad j (i : Int) k rd ky vl lo hi ub lm rv) := by
  have hw := wrap_next i hi20
  cases q1 : k == 1
  rotate_left 1
  · have hk : k = 1 := by simpa using q1
    have d1 : decide (k ≤ 8) = true := by subst hk; decide
    have d2 : decide (k ≥ 1) = true := by subst hk; decide
    refine goNTo (m1 a b t r h c n cap ad j (i : Int) k rd ky vl lo hi ub lm rv) (obsC d1 (obsC d2 (obsC q1 obsN))) ?_
    refine isk (S := tM1 a b t r h c n cap ad j (i : Int) k rd ky vl lo hi ub lm rv) (m1c a b t r h c n cap ad j (i : Int) k rd ky vl lo hi ub lm rv) rfl ?_
    refine goNTo (m1o a b t r h c n cap ad j (i : Int) k rd ky vl lo hi ub lm rv) obsN ?_
    exact WPs.canon (C := CT w) [] keepSl (S' := fun j' _ => tH a b t r h c (some ad) n cap j' (IntKind.i64.wrap ((i : Int) + 1))) (m1h a b t r h c n cap ad j (i : Int) k rd ky vl lo hi ub lm rv) (fun n b e => by cases e) (fun j' _ => by rw [hw]; exact g j')
  cases q2 : k == 2
  rotate_left 1
  · have hk : k = 2 := by simpa using q2
    have d1 : decide (k ≤ 8) = true := by subst hk; decide
    have d2 : decide (k ≥ 1) = true := by subst hk; decide
    refine goNTo (m2 a b t r h c n cap ad j (i : Int) k rd ky vl lo hi ub lm rv) (obsC d1 (obsC d2 (obsC q2 (obsC q1 obsN)))) ?_
    refine isk (S := tM2 a b t r h c n cap ad j (i : Int) k rd ky vl lo hi ub lm rv) (m2c a b t r h c n cap ad j (i : Int) k rd ky vl lo hi ub lm rv) rfl ?_
    refine goNTo (m2o a b t r h c n cap ad j (i : Int) k rd ky vl lo hi ub lm rv) obsN ?_
    exact WPs.canon (C := CT w) [] keepSl (S' := fun j' _ => tH a b t r h c (some ad) n cap j' (IntKind.i64.wrap ((i : Int) + 1))) (m2h a b t r h c n cap ad j (i : Int) k rd ky vl lo hi ub lm rv) (fun n b e => by cases e) (fun j' _ => by rw [hw]; exact g j')
  cases q3 : k == 3
  rotate_left 1
  · have hk : k = 3 := by simpa using q3
    have d1 : decide (k ≤ 8) = true := by subst hk; decide
    have d2 : decide (k ≥ 1) = true := by subst hk; decide
    refine goNTo (m3 a b t r h c n cap ad j (i : Int) k rd ky vl lo hi ub lm rv) (obsC d1 (obsC d2 (obsC q3 (obsC q2 (obsC q1 obsN))))) ?_
    refine isk (S := tM3 a b t r h c n cap ad j (i : Int) k rd ky vl lo hi ub lm rv) (m3c a b t r h c n cap ad j (i : Int) k rd ky vl lo hi ub lm rv) rfl ?_
    refine goNTo (m3o a b t r h c n cap ad j (i : Int) k rd ky vl lo hi ub lm rv) obsN ?_
    exact WPs.canon (C := CT w) [] keepSl (S' := fun j' _ => tH a b t r h c (some ad) n cap j' (IntKind.i64.wrap ((i : Int) + 1))) (m3h a b t r h c n cap ad j (i : Int) k rd ky vl lo hi ub lm rv) (fun n b e => by cases e) (fun j' _ => by rw [hw]; exact g j')
  cases q4 : k == 4
  rotate_left 1
  · have hk : k = 4 := by simpa using q4
    have d1 : decide (k ≤ 8) = true := by subst hk; decide
    have d2 : decide (k ≥ 1) = true := by subst hk; decide
    refine goNTo (m4 a b t r h c n cap ad j (i : Int) k rd ky vl lo hi ub lm rv) (obsC d1 (obsC d2 (obsC q4 (obsC q3 (obsC q2 (obsC q1 obsN)))))) ?_
    refine isk (S := tM4 a b t r h c n cap ad j (i : Int) k rd ky vl lo hi ub lm rv) (m4c a b t r h c n cap ad j (i : Int) k rd ky vl lo hi ub lm rv) rfl ?_
    refine goNTo (m4o a b t r h c n cap ad j (i : Int) k rd ky vl lo hi ub lm rv) obsN ?_
    exact WPs.canon (C := CT w) [] keepSl (S' := fun j' _ => tH a b t r h c (some ad) n cap j' (IntKind.i64.wrap ((i : Int) + 1))) (m4h a b t r h c n cap ad j (i : Int) k rd ky vl lo hi ub lm rv) (fun n b e => by cases e) (fun j' _ => by rw [hw]; exact g j')
  cases q5 : k == 5
  rotate_left 1
  · have hk : k = 5 := by simpa using q5
    have d1 : decide (k ≤ 8) = true := by subst hk; decide
    have d2 : decide (k ≥ 1) = true := by subst hk; decide
    refine goNTo (m5 a b t r h c n cap ad j (i : Int) k rd ky vl lo hi ub lm rv) (obsC d1 (obsC d2 (obsC q5 (obsC q4 (obsC q3 (obsC q2 (obsC q1 obsN))))))) ?_
    refine isk (S := tM5 a b t r h c n cap ad j (i : Int) k rd ky vl lo hi ub lm rv) (m5c a b t r h c n cap ad j (i : Int) k rd ky vl lo hi ub lm rv) rfl ?_
    refine goNTo (m5o a b t r h c n cap ad j (i : Int) k rd ky vl lo hi ub lm rv) obsN ?_
    exact WPs.canon (C := CT w) [] keepSl (S' := fun j' _ => tH a b t r h c (some ad) n cap j' (IntKind.i64.wrap ((i : Int) + 1))) (m5h a b t r h c n cap ad j (i : Int) k rd ky vl lo hi ub lm rv) (fun n b e => by cases e) (fun j' _ => by rw [hw]; exact g j')
  cases q6 : k == 6
  rotate_left 1
  · have hk : k = 6 := by simpa using q6
    have d1 : decide (k ≤ 8) = true := by subst hk; decide
    have d2 : decide (k ≥ 1) = true := by subst hk; decide
    refine goNTo (m6 a b t r h c n cap ad j (i : Int) k rd ky vl lo hi ub lm rv) (obsC d1 (obsC d2 (obsC q6 (obsC q5 (obsC q4 (obsC q3 (obsC q2 (obsC q1 obsN)))))))) ?_
    refine isk (S := tM6 a b t r h c n cap ad j (i : Int) k rd ky vl lo hi ub lm rv) (m6c a b t r h c n cap ad j (i : Int) k rd ky vl lo hi ub lm rv) rfl ?_
    refine goNTo (m6o a b t r h c n cap ad j (i : Int) k rd ky vl lo hi ub lm rv) obsN ?_
    exact WPs.canon (C := CT w) [] keepSl (S' := fun j' _ => tH a b t r h c (some ad) n cap j' (IntKind.i64.wrap ((i : Int) + 1))) (m6h a b t r h c n cap ad j (i : Int) k rd ky vl lo hi ub lm rv) (fun n b e => by cases e) (fun j' _ => by rw [hw]; exact g j')
  cases q7 : k == 7
  rotate_left 1
  · have hk : k = 7 := by simpa using q7
    have d1 : decide (k ≤ 8) = true := by subst hk; decide
    have d2 : decide (k ≥ 1) = true := by subst hk; decide
    refine goNTo (m7 a b t r h c n cap ad j (i : Int) k rd ky vl lo hi ub lm rv) (obsC d1 (obsC d2 (obsC q7 (obsC q6 (obsC q5 (obsC q4 (obsC q3 (obsC q2 (obsC q1 obsN))))))))) ?_
    refine isk (S := tM7 a b t r h c n cap ad j (i : Int) k rd ky vl lo hi ub lm rv) (m7c a b t r h c n cap ad j (i : Int) k rd ky vl lo hi ub lm rv) rfl ?_
    refine goNTo (m7o a b t r h c n cap ad j (i : Int) k rd ky vl lo hi ub lm rv) obsN ?_
    exact WPs.canon (C := CT w) [] keepSl (S' := fun j' _ => tH a b t r h c (some ad) n cap j' (IntKind.i64.wrap ((i : Int) + 1))) (m7h a b t r h c n cap ad j (i : Int) k rd ky vl lo hi ub lm rv) (fun n b e => by cases e) (fun j' _ => by rw [hw]; exact g j')
  cases q8 : k == 8
  rotate_left 1
  · have hk : k = 8 := by simpa using q8
    have d1 : decide (k ≤ 8) = true := by subst hk; decide
    have d2 : decide (k ≥ 1) = true := by subst hk; decide
    refine goNTo (m8 a b t r h c n cap ad j (i : Int) k rd ky vl lo hi ub lm rv) (obsC d1 (obsC d2 (obsC q8 (obsC q7 (obsC q6 (obsC q5 (obsC q4 (obsC q3 (obsC q2 (obsC q1 obsN)))))))))) ?_
    refine isk (S := tM8 a b t r h c n cap ad j (i : Int) k rd ky vl lo hi ub lm rv) (m8c a b t r h c n cap ad j (i : Int) k rd ky vl lo hi ub lm rv) rfl ?_
    refine goNTo (m8o a b t r h c n cap ad j (i : Int) k rd ky vl lo hi ub lm rv) obsN ?_
    exact WPs.canon (C := CT w) [] keepSl (S' := fun j' _ => tH a b t r h c (some ad) n cap j' (IntKind.i64.wrap ((i : Int) + 1))) (m8h a b t r h c n cap ad j (i : Int) k rd ky vl lo hi ub lm rv) (fun n b e => by cases e) (fun j' _ => by rw [hw]; exact g j')
  cases d2 : decide (k ≥ 1)
  · refine goNTo (u1 a b t r h c n cap ad j (i : Int) k rd ky vl lo hi ub lm rv) (obsC d2 (obsC q8 (obsC q7 (obsC q6 (obsC q5 (obsC q4 (obsC q3 (obsC q2 (obsC q1 obsN))))))))) ?_
    exact WPs.canon (C := CT w) [] keepSl (S' := fun j' _ => tH a b t r h c (some ad) n cap j' (IntKind.i64.wrap ((i : Int) + 1))) (u2 a b t r h c n cap ad j (i : Int) k rd ky vl lo hi ub lm rv) (fun n b e => by cases e) (fun j' _ => by rw [hw]; exact g j')
  · have d1 : decide (k ≤ 8) = false := by
      simp only [beq_eq_false_iff_ne, ne_eq, decide_eq_true_eq, decide_eq_false_iff_not] at *
      omega
    refine goNTo (v1 a b t r h c n cap ad j (i : Int) k rd ky vl lo hi ub lm rv) (obsC d1 (obsC d2 (obsC q8 (obsC q7 (obsC q6 (obsC q5 (obsC q4 (obsC q3 (obsC q2 (obsC q1 obsN)))))))))) ?_
    exact WPs.canon (C := CT w) [] keepSl (S' := fun j' _ => tH a b t r h c (some ad) n cap j' (IntKind.i64.wrap ((i : Int) + 1))) (v2 a b t r h c n cap ad j (i : Int) k rd ky vl lo hi ub lm rv) (fun n b e => by cases e) (fun j' _ => by rw [hw]; exact g j')

/-- A round. -/
theorem tc_round (ad : Addr) (hsp : ad.spot = none) (i : Nat) (hi20 : i < n) (hn : n ≤ 20) (j : Nat → Value) (hact : ActAt w ad i)
    (g : ∀ j', WPs (CT w) (fun b => w.heap[b]?) (tH a b t r h c (some ad) n cap j' ((i + 1 : Nat) : Int))) : WPs (CT w) (fun b => w.heap[b]?) (tH a b t r h c (some ad) n cap j (i : Int)) := by
  obtain ⟨cs, T, fz, k, rd, ky, vl, lo, hi, ub, lm, rv, hc, hcs⟩ := hact
  have d0 : decide ((i : Int) < (n : Int)) = true := by simp; omega
  refine goTo (l1 a b t r h c n cap ad j i) (obsC d0 obsN) ?_
  refine WPs.elem (C := CT w) (S := tL1 a b t r h c n cap ad j i) (l1c a b t r h c n cap ad j i) (by omega) ?_
  refine goTo (S := bh (tL1 a b t r h c n cap ad j i) (.v (.pointer (some (ad.add ((i : Int).toNat * 9)))))) (l2 a b t r h c n cap ad j i) obsN ?_
  obtain ⟨e1, e2, e3⟩ := addr_add hsp ((i : Int).toNat * 9)
  refine WPs.loadImm (C := CT w) (S := tL2 a b t r h c n cap ad j i) (vs := actL k rd ky vl lo hi ub lm rv) (cs := cs) (T := T) (fz := fz) (sz := 9) (l2c a b t r h c n cap ad j i) e3 (by show w.heap[_]? = _; rw [e1]; exact hc)
    (by kernel_rfl) (by kernel_rfl) (by rw [e2]; simpa using hcs) rfl ?_
  show WPs (CT w) _ (tL3 a b t r h c n cap ad j (i : Int) k rd ky vl lo hi ub lm rv)
  cases x1 : decide ((ky.size : Int) > 100)
  rotate_left 1
  · refine goTo (q1 a b t r h c n cap ad j (i : Int) k rd ky vl lo hi ub lm rv) (obsC x1 obsN) ?_
    exact awk (S := tK1 a b t r h c n cap ad j (i : Int) k rd ky vl lo hi ub lm rv) (q1c a b t r h c n cap ad j (i : Int) k rd ky vl lo hi ub lm rv) (q1e a b t r h c n cap ad j (i : Int) k rd ky vl lo hi ub lm rv)
  cases x2 : decide ((vl.size : Int) > 100)
  rotate_left 1
  · refine goTo (q2 a b t r h c n cap ad j (i : Int) k rd ky vl lo hi ub lm rv) (obsC x2 (obsC x1 obsN)) ?_
    exact awk (S := tK2 a b t r h c n cap ad j (i : Int) k rd ky vl lo hi ub lm rv) (q2c a b t r h c n cap ad j (i : Int) k rd ky vl lo hi ub lm rv) (q2e a b t r h c n cap ad j (i : Int) k rd ky vl lo hi ub lm rv)
  cases x3 : decide ((lo.size : Int) > 100)
  rotate_left 1
  · refine goTo (q3 a b t r h c n cap ad j (i : Int) k rd ky vl lo hi ub lm rv) (obsC x3 (obsC x2 (obsC x1 obsN))) ?_
    exact awk (S := tK3 a b t r h c n cap ad j (i : Int) k rd ky vl lo hi ub lm rv) (q3c a b t r h c n cap ad j (i : Int) k rd ky vl lo hi ub lm rv) (q3e a b t r h c n cap ad j (i : Int) k rd ky vl lo hi ub lm rv)
  cases x4 : decide ((hi.size : Int) > 100)
  rotate_left 1
  · refine goTo (q4 a b t r h c n cap ad j (i : Int) k rd ky vl lo hi ub lm rv) (obsC x4 (obsC x3 (obsC x2 (obsC x1 obsN)))) ?_
    exact awk (S := tK4 a b t r h c n cap ad j (i : Int) k rd ky vl lo hi ub lm rv) (q4c a b t r h c n cap ad j (i : Int) k rd ky vl lo hi ub lm rv) (q4e a b t r h c n cap ad j (i : Int) k rd ky vl lo hi ub lm rv)
  refine goTo (l3 a b t r h c n cap ad j (i : Int) k rd ky vl lo hi ub lm rv) (obsC x4 (obsC x3 (obsC x2 (obsC x1 obsN)))) ?_
  refine WPs.callIs (C := CT w) (S := tL4 a b t r h c n cap ad j (i : Int) k rd ky vl lo hi ub lm rv) (V := .iface 40 (.int .i64 1)) (.ifc 40 (.i .i64 1)) (l3c a b t r h c n cap ad j (i : Int) k rd ky vl lo hi ub lm rv) (fun _ => rfl) (fun ρ w vs hv => ?_) ?_
  · simp only [SV.denL, actS_den, SV.den, Option.bind_some, Option.map_some, Option.some.injEq] at hv
    subst hv
    exact as_calls k rd ky vl lo hi ub lm rv w
  refine goTo (S := bh (tL4 a b t r h c n cap ad j (i : Int) k rd ky vl lo hi ub lm rv) (.ifc 40 (.i .i64 1))) (l4 a b t r h c n cap ad j (i : Int) k rd ky vl lo hi ub lm rv) obsN ?_
  refine isk (S := tL5 a b t r h c n cap ad j (i : Int) k rd ky vl lo hi ub lm rv) (l4c a b t r h c n cap ad j (i : Int) k rd ky vl lo hi ub lm rv) rfl ?_
  exact tc_tail a b t r h c n cap w ad i (by omega) j k rd ky vl lo hi ub lm rv _ g

theorem tc_loop (base : Option Addr) (hn : n ≤ 20) (hA : Acts w base n) : ∀ (d i : Nat), n = i + d → ∀ j, WPs (CT w) (fun b => w.heap[b]?) (tH a b t r h c base n cap j (i : Int))
  | 0, i, hd, j => by
    have d0 : decide ((i : Int) < (n : Int)) = false := by simp; omega
    refine goTo (z1 a b t r h c base n cap j i) (obsC d0 obsN) ?_
    exact awk (S := tZ a b t r h c base n cap j i) (z2 a b t r h c base n cap j i) (z3 a b t r h c base n cap j i)
  | d + 1, i, hd, j => by
    rcases id hA with h0 | ⟨ad, rfl, hsp, hact⟩
    · omega
    · exact tc_round a b t r h c n cap w ad hsp i (by omega) hn j (hact i (by omega)) fun j' => tc_loop (some ad) hn hA d (i + 1) (by omega) j'

theorem tc_wps (base : Option Addr) (hA : Acts w base n) : WPs (CT w) (fun b => w.heap[b]?) (tS0 a b t r h c base n cap) := by
  cases x1 : decide ((n : Int) > 20)
  rotate_left 1
  · refine goTo (t1 a b t r h c base n cap) (obsC x1 obsN) ?_
    exact awk (S := tA1 a b t r h c base n cap) (t1c a b t r h c base n cap) (t1e a b t r h c base n cap)
  cases x2 : decide (a > 300)
  rotate_left 1
  · refine goTo (t2 a b t r h c base n cap) (obsC x2 (obsC x1 obsN)) ?_
    exact awk (S := tA2 a b t r h c base n cap) (t2c a b t r h c base n cap) (t2e a b t r h c base n cap)
  cases x3 : decide (b > 60)
  rotate_left 1
  · refine goTo (t3 a b t r h c base n cap) (obsC x3 (obsC x2 (obsC x1 obsN))) ?_
    exact awk (S := tA3 a b t r h c base n cap) (t3c a b t r h c base n cap) (t3e a b t r h c base n cap)
  have hn : n ≤ 20 := by simp only [decide_eq_false_iff_not] at x1; omega
  have hloop := fun j => tc_loop a b t r h c n cap w base hn hA n 0 (by omega) j
  refine goTo (t4 a b t r h c base n cap) (obsC x3 (obsC x2 (obsC x1 obsN))) ?_
  refine isk (S := tS1 a b t r h c base n cap) (t4c a b t r h c base n cap) rfl ?_
  refine goTo (t5 a b t r h c base n cap) obsN ?_
  have hl : ∀ (ρ : Rho) (vs : List Value), SV.denL ρ [limS a b t r h c] = some vs → vs = [limV a b t r h c] := by
    intro ρ vs hv
    simp only [SV.denL, limS_den, Option.bind_some, Option.map_some, Option.some.injEq] at hv
    exact hv.symm
  refine WPs.callAs (C := CT w) (S := tS2 a b t r h c base n cap) (t5c a b t r h c base n cap)
    (R := fun y => (mrB a b t r h c = false ∧ y = .tp [.ag [.np, .np], .ifc 40 (.i .i64 1)]) ∨ (mrB a b t r h c = true ∧ ∃ p q, y = .tp [.ag [.v (.pointer (some p)), .v (.pointer (some q))], .ni])) (fun ρ w vs hv => ?_) ?_
  · obtain rfl := hl ρ vs hv
    refine (ns_calls a b t r h c w).mono fun e w' ⟨v, he, hq, hR⟩ => ?_
    rcases hR with ⟨h1, rfl⟩ | ⟨h1, p, q, rfl⟩
    · exact ⟨_, .tp [.ag [.np, .np], .ifc 40 (.i .i64 1)], he, hq, fun ρ => rfl, .inl ⟨h1, rfl⟩⟩
    · exact ⟨_, .tp [.ag [.v (.pointer (some p)), .v (.pointer (some q))], .ni], he, hq, fun ρ => rfl, .inr ⟨h1, p, q, rfl⟩⟩
  · rintro y (⟨h1, rfl⟩ | ⟨h1, p, q, rfl⟩)
    · refine goTo (S := bh (tS2 a b t r h c base n cap) _) (t6b a b t r h c base n cap) obsN ?_
      refine isk (S := tS3 a b t r h c base n cap _) (t6bc a b t r h c base n cap) rfl ?_
      refine goTo (t7b a b t r h c base n cap) obsN ?_
      refine WPs.callIs (C := CT w) (S := tS4 a b t r h c base n cap _) (V := .bool false) (.b false) (t7bc a b t r h c base n cap) (fun _ => rfl) (fun ρ w vs hv => ?_) ?_
      · obtain rfl := hl ρ vs hv
        have := rr_calls a b t r h c w
        rwa [← mr_rr, h1] at this
      refine goTo (S := bh (tS4 a b t r h c base n cap _) (.b false)) (t8b a b t r h c base n cap) obsN ?_
      refine isk (S := tS5 a b t r h c base n cap) (t8bc a b t r h c base n cap) rfl ?_
      refine goTo (t9b a b t r h c base n cap) obsN ?_
      exact WPs.canon (C := CT w) [] keepSl (S := tE2 a b t r h c base n cap) (S' := fun j _ => tH a b t r h c base n cap j 0) (Go.Rl.Z.h2 a b t r h c base n cap) (fun n b e => by cases e) (fun j _ => hloop j)
    · refine goTo (S := bh (tS2 a b t r h c base n cap) _) (t6a a b t r h c base n cap p q) obsN ?_
      refine isk (S := tS3 a b t r h c base n cap _) (t6ac a b t r h c base n cap p q) rfl ?_
      refine goTo (t7a a b t r h c base n cap p q) obsN ?_
      refine WPs.callIs (C := CT w) (S := tS4 a b t r h c base n cap _) (V := .bool true) (.b true) (t7ac a b t r h c base n cap p q) (fun _ => rfl) (fun ρ w vs hv => ?_) ?_
      · obtain rfl := hl ρ vs hv
        have := rr_calls a b t r h c w
        rwa [← mr_rr, h1] at this
      refine goTo (S := bh (tS4 a b t r h c base n cap _) (.b true)) (t8a a b t r h c base n cap p q) obsN ?_
      exact WPs.canon (C := CT w) [] keepSl (S := tE1 a b t r h c base n cap p q) (S' := fun j _ => tH a b t r h c base n cap j 0) (fun j jc => Go.Rl.Z.h1 a b t r h c base n cap j jc p q) (fun n b e => by cases e) (fun j _ => hloop j)

/-- What 'TxnCalls' comes to. -/
theorem tc_calls (base : Option Addr) (hA : Acts w base n) : Calls Pr 3 #[limV a b t r h c, .slice base n cap] w fun e w' => e = .returned (.bool true) ∧ Quiet w w' := by
  have := calls_of_wps (C := CT w) (I := fun b => w.heap[b]?) (f := 3) (args := [limS a b t r h c, .v (.slice base n cap)]) (vs := [limV a b t r h c, .slice base n cap]) (w := w) (H0 := []) (enters_of (t0 a b t r h c base n cap)) rfl rfl
    ⟨fun n _ _ _ _ hn => by simp at hn, fun n _ hn => by simp at hn, fun n m b hn _ _ _ => by obtain ⟨o, ho, _⟩ := hn; simp at ho, fun n b hb => by cases hb⟩
    (by simp [SV.denL, SV.den, limS_den]) (fun b o hb => ⟨hb, fun n e => by cases e⟩) (tc_wps a b t r h c n cap w base hA)
  refine this.mono fun e w' hF => ?_
  obtain ⟨x, H, ρ, I, val, rfl, hx, _, hmv, _, hQ⟩ := hF
  have hQ' : x = .b true := hQ
  subst hQ'
  simp only [SV.den, Option.some.injEq] at hx
  subst hx
  exact ⟨rfl, hmv.quiet⟩
end
end Go.Rl.Z
