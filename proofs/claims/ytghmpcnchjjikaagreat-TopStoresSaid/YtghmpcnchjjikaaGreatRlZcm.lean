/-
  bkey.Common and bkey.Compare: what they come to.
-/
import Derived.Test.YtghmpcnchjjikaaGreatRlZri
import Derived.Test.YtghmpcnchjjikaaGreatRlSs
set_option linter.all false
set_option linter.unusedVariables false
set_option linter.unusedSimpArgs false
set_option linter.unnecessarySimpa false
open Go Go.Rl
namespace Go.Rl.Z
set_option maxRecDepth 100000
def noSt : Stops := fun _ => false
def comm : List UInt8 → List UInt8 → Nat
  | x :: xs, y :: ys => if x = y then comm xs ys + 1 else 0
  | _, _ => 0
def commS (a b : ByteArray) : Nat := comm a.data.toList b.data.toList

theorem comm_eq : ∀ (l m : List UInt8) (i : Nat), i ≤ l.length → i ≤ m.length → (∀ k, k < i → l[k]? = m[k]?) → (i = l.length ∨ i = m.length ∨ l[i]? ≠ m[i]?) → comm l m = i
  | [], m, i, h1, _, _, _ => by simp at h1; subst h1; cases m <;> rfl
  | x :: xs, [], i, _, h2, _, _ => by simp at h2; subst h2; rfl
  | x :: xs, y :: ys, 0, _, _, _, h => by
    rcases h with h | h | h
    · simp at h
    · simp at h
    · simp at h; simp [comm, h]
  | x :: xs, y :: ys, i + 1, h1, h2, h3, h4 => by
    have hxy : x = y := by simpa using h3 0 (by omega)
    subst hxy
    have := comm_eq xs ys i (by simpa using h1) (by simpa using h2) (fun k hk => by simpa using h3 (k + 1) (by omega)) (by simpa using h4)
    simp [comm, this]

theorem comm_le : ∀ (l m : List UInt8), comm l m ≤ l.length ∧ comm l m ≤ m.length
  | [], m => by cases m <;> simp [comm]
  | x :: xs, [] => by simp [comm]
  | x :: xs, y :: ys => by
    have := comm_le xs ys
    simp only [comm]
    split <;> simp <;> omega

def cmpI (a b : ByteArray) : Int :=
  if (commS a b : Int) = a.size ∧ (commS a b : Int) = b.size then 0
  else if (commS a b : Int) = a.size then -1
  else if (commS a b : Int) = b.size then 1
  else if byteAt a (commS a b) < byteAt b (commS a b) then -1 else 1

def minI (a b : ByteArray) : Int := if (b.size : Int) < (a.size : Int) then (b.size : Int) else (a.size : Int)

section
variable (a b : ByteArray)
noncomputable def cS0 : SS := sOf Pr 144 [.v (.string a), .v (.string b)] []
noncomputable def cH0 : SS := (adv Pr noSt 100000 [] [] (cS0 a b)).st
def keepC : List Nat := classes 24 [0, 1, 4, 12] [5, 10, 11]
noncomputable def cH (j : Nat → Value) (i : Int) : SS :=
  putSl (putSl (putSl (orSS (canonS [] keepC j (fun _ _ => .nilIface) (cH0 a b))) 5 (.v (.int .i64 i))) 11 (.v (.int .i64 i))) 12 (.v (.bool (decide (i < minI a b))))
theorem c0 : entersB Pr 144 [.v (.string a), .v (.string b)] = true := by kernel_rfl
theorem c1 (o : Orc) : run Pr noSt [.seg [], .canon [] keepC] [o] (cS0 a b) = some ([.keep []], .at (cH a b o.j 0)) := by kernel_rfl
theorem c2 (j : Nat → Value) (i : Int) : runV (run Pr noSt [.seg [false]] [] (cH a b j i)) = some ([.eq (decide (i < minI a b)) false], .v (.int .i64 i)) := by kernel_rfl
theorem c3 (j : Nat → Value) (i : Int) : runV (run Pr noSt [.seg [true, true, true, true]] [] (cH a b j i)) =
    some ([.eq (byteAt a i != byteAt b i) true, .eq (decide (0 ≤ i) && decide (i < (b.size : Int))) true, .eq (decide (0 ≤ i) && decide (i < (a.size : Int))) true, .eq (decide (i < minI a b)) true], .v (.int .i64 i)) := by kernel_rfl
theorem c4 (j : Nat → Value) (i : Int) (o : Orc) : run Pr noSt [.seg [true, true, true, false], .canon [] keepC] [o] (cH a b j i) =
    some ([.eq (byteAt a i != byteAt b i) false, .eq (decide (0 ≤ i) && decide (i < (b.size : Int))) true, .eq (decide (0 ≤ i) && decide (i < (a.size : Int))) true, .eq (decide (i < minI a b)) true, .keep []], .at (cH a b o.j (IntKind.i64.wrap (i + 1)))) := by kernel_rfl
end

theorem wrap_id {n : Int} (h0 : -9223372036854775808 ≤ n) (h : n < 9223372036854775808) : IntKind.i64.wrap n = n := by
  simp [IntKind.wrap, IntKind.signed, IntKind.bits]
  omega

theorem byteAt_eq (s : ByteArray) (i : Nat) (h : i < s.size) : ∃ u, s.data.toList[i]? = some u ∧ byteAt s (i : Int) = (u.toNat : Int) := by
  have hl : i < s.data.toList.length := by simpa using h
  refine ⟨s.data.toList[i], List.getElem?_eq_getElem hl, ?_⟩
  simp [byteAt, List.getD, List.getElem?_eq_getElem hl]

theorem byteAt_inj (a b : ByteArray) (i : Nat) (ha : i < a.size) (hb : i < b.size) : (byteAt a i = byteAt b i) ↔ a.data.toList[i]? = b.data.toList[i]? := by
  obtain ⟨u, h1, h2⟩ := byteAt_eq a i ha
  obtain ⟨v, h3, h4⟩ := byteAt_eq b i hb
  rw [h1, h2, h3, h4]
  constructor
  · intro h
    have : u.toNat = v.toNat := by omega
    rw [UInt8.toNat_inj.1 this]
  · intro h
    simp only [Option.some.injEq] at h
    rw [h]

theorem orcs1 {os : List Orc} (h : os.length = 1) : ∃ o, os = [o] := by
  obtain ⟨o, os', rfl, h'⟩ := orcs_succ h
  exact ⟨o, by rw [orcs0 h']⟩

noncomputable abbrev CCm (a b : ByteArray) (w : World) : Ctx := { P := Pr, hm := rmix, f0 := 144, ρ0 := fun _ => none, w0 := w, Q := fun x _ _ => ∃ v, (∀ ρ, x.den ρ = some v) ∧ v = .int .i64 (commS a b : Int) }

theorem cm_loop (a b : ByteArray) (hsz : a.size < 4611686018427387904) (w : World) (I : Imm) : ∀ (d i : Nat) (j : Nat → Value), (i : Int) + d = minI a b → (∀ k, k < i → a.data.toList[k]? = b.data.toList[k]?) → WPs (CCm a b w) I (cH a b j i)
  | 0, i, j, hd, heq => by
    have hmin : minI a b ≤ a.size ∧ minI a b ≤ b.size ∧ (minI a b = a.size ∨ minI a b = b.size) := by unfold minI; split <;> omega
    refine WPs.runs (C := CCm a b w) noSt [.seg [false]] fun os hos => ?_
    obtain rfl := orcs0 hos
    obtain ⟨H, h⟩ := runV_of (c2 a b j i)
    refine ⟨_, _, h, by simp; omega, ⟨_, fun ρ => rfl, ?_⟩⟩
    have : commS a b = i := by
      refine comm_eq _ _ i (by simp; omega) (by simp; omega) heq ?_
      rcases hmin.2.2 with h | h
      · exact .inl (by simp; omega)
      · exact .inr (.inl (by simp; omega))
    rw [this]
  | d + 1, i, j, hd, heq => by
    have hmin : minI a b ≤ a.size ∧ minI a b ≤ b.size := by unfold minI; split <;> omega
    have t1 : decide ((i : Int) < minI a b) = true := by simp; omega
    have t2 : (decide (0 ≤ (i : Int)) && decide ((i : Int) < (a.size : Int))) = true := by simp; omega
    have t3 : (decide (0 ≤ (i : Int)) && decide ((i : Int) < (b.size : Int))) = true := by simp; omega
    have hin := byteAt_inj a b i (by omega) (by omega)
    cases t4 : byteAt a i != byteAt b i with
    | true =>
      refine WPs.runs (C := CCm a b w) noSt [.seg [true, true, true, true]] fun os hos => ?_
      obtain rfl := orcs0 hos
      obtain ⟨H, h⟩ := runV_of (c3 a b j i)
      refine ⟨_, _, h, t4, t3, t2, t1, ⟨_, fun ρ => rfl, ?_⟩⟩
      have hne : byteAt a i ≠ byteAt b i := by simpa using t4
      have : commS a b = i := comm_eq _ _ i (by simp; omega) (by simp; omega) heq (.inr (.inr fun h => hne (hin.2 h)))
      rw [this]
    | false =>
      have he : byteAt a i = byteAt b i := by simpa using t4
      refine WPs.runs (C := CCm a b w) noSt [.seg [true, true, true, false], .canon [] keepC] fun os hos => ?_
      obtain ⟨o, rfl⟩ := orcs1 hos
      refine ⟨_, _, c4 a b j i o, t4, t3, t2, t1, (fun n b e => by cases e), ?_⟩
      rw [wrap_id (by omega) (by omega)]
      show WPs _ _ _
      have := cm_loop a b hsz w I d (i + 1) o.j (by omega) (fun k hk => by
        by_cases hki : k = i
        · subst hki; exact hin.1 he
        · exact heq k (by omega))
      simpa using this

theorem common_calls (a b : ByteArray) (hsz : a.size < 4611686018427387904) (w : World) : Calls Pr 144 #[.string a, .string b] w fun e w' => ∃ v, e = .returned v ∧ Quiet w w' ∧ v = .int .i64 (commS a b : Int) := by
  refine quiet_of_wps (args := [.v (.string a), .v (.string b)]) (vs := [.string a, .string b]) rmix (enters_of (c0 a b)) rfl ?_
  refine WPs.runs (C := CCm a b w) noSt [.seg [], .canon [] keepC] fun os hos => ?_
  obtain ⟨o, rfl⟩ := orcs1 hos
  refine ⟨_, _, c1 a b o, (fun n b e => by cases e), ?_⟩
  show WPs _ _ _
  have := cm_loop a b hsz w (fun _ => none) (minI a b).toNat 0 o.j (by unfold minI; split <;> omega) (fun k hk => by omega)
  simpa using this

/-! ### Compare -/
section
variable (a b : ByteArray)
def st144 : Stops := fun k => Nat.beq k 144
noncomputable def kS0 : SS := sOf Pr 96 [.v (.string a), .v (.string b)] []
theorem k0c : entersB Pr 96 [.v (.string a), .v (.string b)] = true := by kernel_rfl
theorem k1c (n : Int) : runV (run Pr st144 [.seg [], .call (.v (.int .i64 n)), .seg [true, true]] [] (kS0 a b)) =
    some ([.call 144 [.v (.string a), .v (.string b)] (.v (.int .i64 n)), .eq (n == (b.size : Int)) true, .eq (n == (a.size : Int)) true], .i .i64 0) := by kernel_rfl
theorem k2c (n : Int) : runV (run Pr st144 [.seg [], .call (.v (.int .i64 n)), .seg [true, false, true]] [] (kS0 a b)) =
    some ([.call 144 [.v (.string a), .v (.string b)] (.v (.int .i64 n)), .eq (n == (a.size : Int)) true, .eq (n == (b.size : Int)) false, .eq (n == (a.size : Int)) true], .i .i64 (-1)) := by kernel_rfl
theorem k3c (n : Int) : runV (run Pr st144 [.seg [], .call (.v (.int .i64 n)), .seg [false, false, true]] [] (kS0 a b)) =
    some ([.call 144 [.v (.string a), .v (.string b)] (.v (.int .i64 n)), .eq (n == (b.size : Int)) true, .eq (n == (a.size : Int)) false, .eq (n == (a.size : Int)) false], .i .i64 1) := by kernel_rfl
theorem k4c (n : Int) : runV (run Pr st144 [.seg [], .call (.v (.int .i64 n)), .seg [false, false, false, true, true, true]] [] (kS0 a b)) =
    some ([.call 144 [.v (.string a), .v (.string b)] (.v (.int .i64 n)), .eq (decide (byteAt a n < byteAt b n)) true, .eq (decide (0 ≤ n) && decide (n < (b.size : Int))) true, .eq (decide (0 ≤ n) && decide (n < (a.size : Int))) true,
      .eq (n == (b.size : Int)) false, .eq (n == (a.size : Int)) false, .eq (n == (a.size : Int)) false], .i .i64 (-1)) := by kernel_rfl
theorem k5c (n : Int) : runV (run Pr st144 [.seg [], .call (.v (.int .i64 n)), .seg [false, false, false, true, true, false]] [] (kS0 a b)) =
    some ([.call 144 [.v (.string a), .v (.string b)] (.v (.int .i64 n)), .eq (decide (byteAt a n < byteAt b n)) false, .eq (decide (0 ≤ n) && decide (n < (b.size : Int))) true, .eq (decide (0 ≤ n) && decide (n < (a.size : Int))) true,
      .eq (n == (b.size : Int)) false, .eq (n == (a.size : Int)) false, .eq (n == (a.size : Int)) false], .i .i64 1) := by kernel_rfl
end

theorem common_is (a b : ByteArray) (hsz : a.size < 4611686018427387904) : IsCall Pr 144 [.v (.string a), .v (.string b)] (.v (.int .i64 (commS a b : Int))) := by
  refine ⟨_, fun ρ => rfl, fun ρ w vs hv => ?_⟩
  simp only [SV.denL, SV.den, Option.bind_some, Option.map_some, Option.some.injEq] at hv
  subst hv
  exact common_calls a b hsz w

noncomputable abbrev CCp (a b : ByteArray) (w : World) : Ctx := { P := Pr, hm := rmix, f0 := 96, ρ0 := fun _ => none, w0 := w, Q := fun x _ _ => ∃ v, (∀ ρ, x.den ρ = some v) ∧ v = .int .i64 (cmpI a b) }

theorem cmp_calls (a b : ByteArray) (hsz : a.size < 4611686018427387904) (w : World) : Calls Pr 96 #[.string a, .string b] w fun e w' => ∃ v, e = .returned v ∧ Quiet w w' ∧ v = .int .i64 (cmpI a b) := by
  refine quiet_of_wps (args := [.v (.string a), .v (.string b)]) (vs := [.string a, .string b]) rmix (enters_of (k0c a b)) rfl ?_
  have hle := comm_le a.data.toList b.data.toList
  have hle1 : (commS a b : Int) ≤ a.size := by have := hle.1; simp at this; exact Int.ofNat_le.2 this
  have hle2 : (commS a b : Int) ≤ b.size := by have := hle.2; simp at this; exact Int.ofNat_le.2 this
  have key : ∀ (ds : List Bool) (l : List Item) (z : Int), runV (run Pr st144 [.seg [], .call (.v (.int .i64 (commS a b : Int))), .seg ds] [] (kS0 a b)) = some (.call 144 [.v (.string a), .v (.string b)] (.v (.int .i64 (commS a b : Int))) :: l, .i .i64 z) →
      hold (CCp a b w) (fun _ => none) l (z = cmpI a b) → WPs (CCp a b w) (fun _ => none) (kS0 a b) := by
    intro ds l z h hl
    refine WPs.runs (C := CCp a b w) st144 [.seg [], .call (.v (.int .i64 (commS a b : Int))), .seg ds] fun os hos => ?_
    obtain rfl := orcs0 hos
    obtain ⟨H, h⟩ := runV_of h
    refine ⟨_, _, h, common_is a b hsz, ?_⟩
    exact hold_mono (fun hz => ⟨_, fun ρ => rfl, by rw [hz]⟩) hl
  cases e1 : (commS a b : Int) == (a.size : Int)
  · have f1 : (commS a b : Int) ≠ a.size := by simpa using e1
    cases e2 : (commS a b : Int) == (b.size : Int)
    · have f2 : (commS a b : Int) ≠ b.size := by simpa using e2
      have g1 : (decide (0 ≤ (commS a b : Int)) && decide ((commS a b : Int) < (a.size : Int))) = true := by simp; omega
      have g2 : (decide (0 ≤ (commS a b : Int)) && decide ((commS a b : Int) < (b.size : Int))) = true := by simp; omega
      cases e3 : decide (byteAt a (commS a b) < byteAt b (commS a b))
      · have f3 : ¬ byteAt a (commS a b) < byteAt b (commS a b) := by simpa using e3
        exact key _ _ _ (k5c a b _) ⟨e3, g2, g1, e2, e1, e1, by show _ = cmpI a b; simp [cmpI, f1, f2, f3]⟩
      · have f3 : byteAt a (commS a b) < byteAt b (commS a b) := by simpa using e3
        exact key _ _ _ (k4c a b _) ⟨e3, g2, g1, e2, e1, e1, by show _ = cmpI a b; simp [cmpI, f1, f2, f3]⟩
    · have f2 : (commS a b : Int) = b.size := by simpa using e2
      exact key _ _ _ (k3c a b _) ⟨e2, e1, e1, by show _ = cmpI a b; unfold cmpI; rw [if_neg (fun h => f1 h.1), if_neg f1, if_pos f2]⟩
  · have f1 : (commS a b : Int) = a.size := by simpa using e1
    cases e2 : (commS a b : Int) == (b.size : Int)
    · have f2 : (commS a b : Int) ≠ b.size := by simpa using e2
      exact key _ _ _ (k2c a b _) ⟨e1, e2, e1, by show _ = cmpI a b; unfold cmpI; rw [if_neg (fun h => f2 h.2), if_pos f1]⟩
    · have f2 : (commS a b : Int) = b.size := by simpa using e2
      exact key _ _ _ (k1c a b _) ⟨e2, e1, by show _ = cmpI a b; unfold cmpI; rw [if_pos ⟨f1, f2⟩]⟩

theorem cmp_is (a b : ByteArray) (hsz : a.size < 4611686018427387904) : IsCall Pr 96 [.v (.string a), .v (.string b)] (.v (.int .i64 (cmpI a b))) := by
  refine ⟨_, fun ρ => rfl, fun ρ w vs hv => ?_⟩
  simp only [SV.denL, SV.den, Option.bind_some, Option.map_some, Option.some.injEq] at hv
  subst hv
  exact cmp_calls a b hsz w

theorem cmpI_empty (b : ByteArray) : cmpI ByteArray.empty b ≤ 0 := by
  have h : commS ByteArray.empty b = 0 := by unfold commS; cases b.data.toList <;> rfl
  unfold cmpI
  rw [h]
  split
  · omega
  · rw [if_pos (by rfl)]; omega
end Go.Rl.Z
