/-
  Which limits may be: what the program's own test and the reference's come to.
-/
import Derived.Test.YtghmpcnchjjikaaGreatRlSr7
import Derived.Test.YtghmpcnchjjikaaGreatProg
set_option linter.all false
set_option linter.unusedVariables false
set_option linter.unusedSimpArgs false
set_option linter.unnecessarySimpa false
open Go Go.Rl
namespace Go.Rl.Z
noncomputable abbrev Pr : Program := Go.Proofs.Tryz.prog
set_option maxRecDepth 100000
theorem rmix : Pr.follows .mixedOrders = true := by kernel_rfl
theorem obsN : ∀ p ∈ ([] : List (Bool × Bool)), p.1 = p.2 := fun _ h => by cases h
theorem obsC {p : Bool × Bool} {l : List (Bool × Bool)} (h : p.1 = p.2) (t : ∀ q ∈ l, q.1 = q.2) : ∀ q ∈ p :: l, q.1 = q.2 := fun q hq => by
  rcases List.mem_cons.1 hq with rfl | hq
  · exact h
  · exact t q hq
def limS (a b t r h c : Int) : SV := .ag [.v (.int .i64 a), .v (.int .i64 b), .v (.int .i64 t), .v (.int .i64 r), .v (.int .i64 h), .v (.int .i64 c)]
def limV (a b t r h c : Int) : Value := .agg #[.int .i64 a, .int .i64 b, .int .i64 t, .int .i64 r, .int .i64 h, .int .i64 c]
theorem limS_den (ρ : Rho) (a b t r h c : Int) : (limS a b t r h c).den ρ = some (limV a b t r h c) := rfl

noncomputable def mrS (a b t r h c : Int) : SS := sOf Pr 74 [limS a b t r h c] []
theorem mr0 (a b t r h c : Int) : entersB Pr 74 [limS a b t r h c] = true := by kernel_rfl
theorem mrx0 (a b t r h c : Int) : (adv Pr (fun _ => false) 3000 [false] [] (mrS a b t r h c)).val = some ([(decide (a ≥ 4), false)], .b false) := by kernel_rfl
theorem mrx1 (a b t r h c : Int) : (adv Pr (fun _ => false) 3000 [true, false] [] (mrS a b t r h c)).val = some ([(decide (a ≤ 4096), false), (decide (a ≥ 4), true)], .b false) := by kernel_rfl
theorem mrx2 (a b t r h c : Int) : (adv Pr (fun _ => false) 3000 [true, true, false] [] (mrS a b t r h c)).val = some ([(decide (b ≥ 3), false), (decide (a ≤ 4096), true), (decide (a ≥ 4), true)], .b false) := by kernel_rfl
theorem mrx3 (a b t r h c : Int) : (adv Pr (fun _ => false) 3000 [true, true, true, false] [] (mrS a b t r h c)).val = some ([(decide (b ≤ 256), false), (decide (b ≥ 3), true), (decide (a ≤ 4096), true), (decide (a ≥ 4), true)], .b false) := by kernel_rfl
theorem mrx4 (a b t r h c : Int) : (adv Pr (fun _ => false) 3000 [true, true, true, true, false] [] (mrS a b t r h c)).val = some ([(decide (t ≥ 1), false), (decide (b ≤ 256), true), (decide (b ≥ 3), true), (decide (a ≤ 4096), true), (decide (a ≥ 4), true)], .b false) := by kernel_rfl
theorem mrx5 (a b t r h c : Int) : (adv Pr (fun _ => false) 3000 [true, true, true, true, true, false] [] (mrS a b t r h c)).val = some ([(decide (t ≤ 64), false), (decide (t ≥ 1), true), (decide (b ≤ 256), true), (decide (b ≥ 3), true), (decide (a ≤ 4096), true), (decide (a ≥ 4), true)], .b false) := by kernel_rfl
theorem mrx6 (a b t r h c : Int) : (adv Pr (fun _ => false) 3000 [true, true, true, true, true, true, false] [] (mrS a b t r h c)).val = some ([(decide (r ≥ 2), false), (decide (t ≤ 64), true), (decide (t ≥ 1), true), (decide (b ≤ 256), true), (decide (b ≥ 3), true), (decide (a ≤ 4096), true), (decide (a ≥ 4), true)], .b false) := by kernel_rfl
theorem mrx7 (a b t r h c : Int) : (adv Pr (fun _ => false) 3000 [true, true, true, true, true, true, true, false] [] (mrS a b t r h c)).val = some ([(decide (r ≤ 64), false), (decide (r ≥ 2), true), (decide (t ≤ 64), true), (decide (t ≥ 1), true), (decide (b ≤ 256), true), (decide (b ≥ 3), true), (decide (a ≤ 4096), true), (decide (a ≥ 4), true)], .b false) := by kernel_rfl
theorem mrx8 (a b t r h c : Int) : (adv Pr (fun _ => false) 3000 [true, true, true, true, true, true, true, true, false] [] (mrS a b t r h c)).val = some ([(decide (h ≥ 2), false), (decide (r ≤ 64), true), (decide (r ≥ 2), true), (decide (t ≤ 64), true), (decide (t ≥ 1), true), (decide (b ≤ 256), true), (decide (b ≥ 3), true), (decide (a ≤ 4096), true), (decide (a ≥ 4), true)], .b false) := by kernel_rfl
theorem mrx9 (a b t r h c : Int) : (adv Pr (fun _ => false) 3000 [true, true, true, true, true, true, true, true, true, false] [] (mrS a b t r h c)).val = some ([(decide (h ≤ 64), false), (decide (h ≥ 2), true), (decide (r ≤ 64), true), (decide (r ≥ 2), true), (decide (t ≤ 64), true), (decide (t ≥ 1), true), (decide (b ≤ 256), true), (decide (b ≥ 3), true), (decide (a ≤ 4096), true), (decide (a ≥ 4), true)], .b false) := by kernel_rfl
theorem mrx10 (a b t r h c : Int) : (adv Pr (fun _ => false) 3000 [true, true, true, true, true, true, true, true, true, true, false] [] (mrS a b t r h c)).val = some ([(decide (c ≥ 8), false), (decide (h ≤ 64), true), (decide (h ≥ 2), true), (decide (r ≤ 64), true), (decide (r ≥ 2), true), (decide (t ≤ 64), true), (decide (t ≥ 1), true), (decide (b ≤ 256), true), (decide (b ≥ 3), true), (decide (a ≤ 4096), true), (decide (a ≥ 4), true)], .b false) := by kernel_rfl
theorem mry (a b t r h c : Int) : (adv Pr (fun _ => false) 3000 [true, true, true, true, true, true, true, true, true, true, true] [] (mrS a b t r h c)).val = some ([(decide (c ≥ 8), true), (decide (h ≤ 64), true), (decide (h ≥ 2), true), (decide (r ≤ 64), true), (decide (r ≥ 2), true), (decide (t ≤ 64), true), (decide (t ≥ 1), true), (decide (b ≤ 256), true), (decide (b ≥ 3), true), (decide (a ≤ 4096), true), (decide (a ≥ 4), true)], .v (.bool (decide (c ≤ 1099511627776)))) := by kernel_rfl
def mrB (a b t r h c : Int) : Bool := (decide (a ≥ 4)) && ((decide (a ≤ 4096)) && ((decide (b ≥ 3)) && ((decide (b ≤ 256)) && ((decide (t ≥ 1)) && ((decide (t ≤ 64)) && ((decide (r ≥ 2)) && ((decide (r ≤ 64)) && ((decide (h ≥ 2)) && ((decide (h ≤ 64)) && ((decide (c ≥ 8)) && ((decide (c ≤ 1099511627776)))))))))))))
theorem mr_calls (a b t r h c : Int) (w : World) : Calls Pr 74 #[limV a b t r h c] w fun e w' => ∃ v, e = .returned v ∧ Quiet w w' ∧ v = .bool (mrB a b t r h c) := by
  refine quiet_of_wps (args := [limS a b t r h c]) (vs := [limV a b t r h c]) rmix (enters_of (mr0 a b t r h c)) (by simp [SV.denL, limS_den]) ?_
  cases q0 : decide (a ≥ 4)
  · exact WPs.ends (S := mrS a b t r h c) rmix _ (mrx0 a b t r h c) (obsC q0 obsN) ⟨_, fun _ => rfl, by simp only [mrB, q0, Bool.true_and, Bool.false_and, Bool.not_true, Bool.not_false, Bool.and_false]⟩
  cases q1 : decide (a ≤ 4096)
  · exact WPs.ends (S := mrS a b t r h c) rmix _ (mrx1 a b t r h c) (obsC q1 (obsC q0 obsN)) ⟨_, fun _ => rfl, by simp only [mrB, q0, q1, Bool.true_and, Bool.false_and, Bool.not_true, Bool.not_false, Bool.and_false]⟩
  cases q2 : decide (b ≥ 3)
  · exact WPs.ends (S := mrS a b t r h c) rmix _ (mrx2 a b t r h c) (obsC q2 (obsC q1 (obsC q0 obsN))) ⟨_, fun _ => rfl, by simp only [mrB, q0, q1, q2, Bool.true_and, Bool.false_and, Bool.not_true, Bool.not_false, Bool.and_false]⟩
  cases q3 : decide (b ≤ 256)
  · exact WPs.ends (S := mrS a b t r h c) rmix _ (mrx3 a b t r h c) (obsC q3 (obsC q2 (obsC q1 (obsC q0 obsN)))) ⟨_, fun _ => rfl, by simp only [mrB, q0, q1, q2, q3, Bool.true_and, Bool.false_and, Bool.not_true, Bool.not_false, Bool.and_false]⟩
  cases q4 : decide (t ≥ 1)
  · exact WPs.ends (S := mrS a b t r h c) rmix _ (mrx4 a b t r h c) (obsC q4 (obsC q3 (obsC q2 (obsC q1 (obsC q0 obsN))))) ⟨_, fun _ => rfl, by simp only [mrB, q0, q1, q2, q3, q4, Bool.true_and, Bool.false_and, Bool.not_true, Bool.not_false, Bool.and_false]⟩
  cases q5 : decide (t ≤ 64)
  · exact WPs.ends (S := mrS a b t r h c) rmix _ (mrx5 a b t r h c) (obsC q5 (obsC q4 (obsC q3 (obsC q2 (obsC q1 (obsC q0 obsN)))))) ⟨_, fun _ => rfl, by simp only [mrB, q0, q1, q2, q3, q4, q5, Bool.true_and, Bool.false_and, Bool.not_true, Bool.not_false, Bool.and_false]⟩
  cases q6 : decide (r ≥ 2)
  · exact WPs.ends (S := mrS a b t r h c) rmix _ (mrx6 a b t r h c) (obsC q6 (obsC q5 (obsC q4 (obsC q3 (obsC q2 (obsC q1 (obsC q0 obsN))))))) ⟨_, fun _ => rfl, by simp only [mrB, q0, q1, q2, q3, q4, q5, q6, Bool.true_and, Bool.false_and, Bool.not_true, Bool.not_false, Bool.and_false]⟩
  cases q7 : decide (r ≤ 64)
  · exact WPs.ends (S := mrS a b t r h c) rmix _ (mrx7 a b t r h c) (obsC q7 (obsC q6 (obsC q5 (obsC q4 (obsC q3 (obsC q2 (obsC q1 (obsC q0 obsN)))))))) ⟨_, fun _ => rfl, by simp only [mrB, q0, q1, q2, q3, q4, q5, q6, q7, Bool.true_and, Bool.false_and, Bool.not_true, Bool.not_false, Bool.and_false]⟩
  cases q8 : decide (h ≥ 2)
  · exact WPs.ends (S := mrS a b t r h c) rmix _ (mrx8 a b t r h c) (obsC q8 (obsC q7 (obsC q6 (obsC q5 (obsC q4 (obsC q3 (obsC q2 (obsC q1 (obsC q0 obsN))))))))) ⟨_, fun _ => rfl, by simp only [mrB, q0, q1, q2, q3, q4, q5, q6, q7, q8, Bool.true_and, Bool.false_and, Bool.not_true, Bool.not_false, Bool.and_false]⟩
  cases q9 : decide (h ≤ 64)
  · exact WPs.ends (S := mrS a b t r h c) rmix _ (mrx9 a b t r h c) (obsC q9 (obsC q8 (obsC q7 (obsC q6 (obsC q5 (obsC q4 (obsC q3 (obsC q2 (obsC q1 (obsC q0 obsN)))))))))) ⟨_, fun _ => rfl, by simp only [mrB, q0, q1, q2, q3, q4, q5, q6, q7, q8, q9, Bool.true_and, Bool.false_and, Bool.not_true, Bool.not_false, Bool.and_false]⟩
  cases q10 : decide (c ≥ 8)
  · exact WPs.ends (S := mrS a b t r h c) rmix _ (mrx10 a b t r h c) (obsC q10 (obsC q9 (obsC q8 (obsC q7 (obsC q6 (obsC q5 (obsC q4 (obsC q3 (obsC q2 (obsC q1 (obsC q0 obsN))))))))))) ⟨_, fun _ => rfl, by simp only [mrB, q0, q1, q2, q3, q4, q5, q6, q7, q8, q9, q10, Bool.true_and, Bool.false_and, Bool.not_true, Bool.not_false, Bool.and_false]⟩
  exact WPs.ends (S := mrS a b t r h c) rmix _ (mry a b t r h c) (obsC q10 (obsC q9 (obsC q8 (obsC q7 (obsC q6 (obsC q5 (obsC q4 (obsC q3 (obsC q2 (obsC q1 (obsC q0 obsN))))))))))) ⟨_, fun _ => rfl, by simp only [mrB, q0, q1, q2, q3, q4, q5, q6, q7, q8, q9, q10, Bool.true_and, Bool.not_false]⟩

noncomputable def rrS (a b t r h c : Int) : SS := sOf Pr 13 [limS a b t r h c] []
theorem rr0 (a b t r h c : Int) : entersB Pr 13 [limS a b t r h c] = true := by kernel_rfl
theorem rrx0 (a b t r h c : Int) : (adv Pr (fun _ => false) 3000 [true] [] (rrS a b t r h c)).val = some ([(decide (a < 4), true)], .b false) := by kernel_rfl
theorem rrx1 (a b t r h c : Int) : (adv Pr (fun _ => false) 3000 [false, true] [] (rrS a b t r h c)).val = some ([(decide (a > 4096), true), (decide (a < 4), false)], .b false) := by kernel_rfl
theorem rrx2 (a b t r h c : Int) : (adv Pr (fun _ => false) 3000 [false, false, true] [] (rrS a b t r h c)).val = some ([(decide (b < 3), true), (decide (a > 4096), false), (decide (a < 4), false)], .b false) := by kernel_rfl
theorem rrx3 (a b t r h c : Int) : (adv Pr (fun _ => false) 3000 [false, false, false, true] [] (rrS a b t r h c)).val = some ([(decide (b > 256), true), (decide (b < 3), false), (decide (a > 4096), false), (decide (a < 4), false)], .b false) := by kernel_rfl
theorem rrx4 (a b t r h c : Int) : (adv Pr (fun _ => false) 3000 [false, false, false, false, true] [] (rrS a b t r h c)).val = some ([(decide (t < 1), true), (decide (b > 256), false), (decide (b < 3), false), (decide (a > 4096), false), (decide (a < 4), false)], .b false) := by kernel_rfl
theorem rrx5 (a b t r h c : Int) : (adv Pr (fun _ => false) 3000 [false, false, false, false, false, true] [] (rrS a b t r h c)).val = some ([(decide (t > 64), true), (decide (t < 1), false), (decide (b > 256), false), (decide (b < 3), false), (decide (a > 4096), false), (decide (a < 4), false)], .b false) := by kernel_rfl
theorem rrx6 (a b t r h c : Int) : (adv Pr (fun _ => false) 3000 [false, false, false, false, false, false, false] [] (rrS a b t r h c)).val = some ([(decide (r ≥ 2), false), (decide (t > 64), false), (decide (t < 1), false), (decide (b > 256), false), (decide (b < 3), false), (decide (a > 4096), false), (decide (a < 4), false)], .b false) := by kernel_rfl
theorem rrx7 (a b t r h c : Int) : (adv Pr (fun _ => false) 3000 [false, false, false, false, false, false, true, false] [] (rrS a b t r h c)).val = some ([(decide (r ≤ 64), false), (decide (r ≥ 2), true), (decide (t > 64), false), (decide (t < 1), false), (decide (b > 256), false), (decide (b < 3), false), (decide (a > 4096), false), (decide (a < 4), false)], .b false) := by kernel_rfl
theorem rrx8 (a b t r h c : Int) : (adv Pr (fun _ => false) 3000 [false, false, false, false, false, false, true, true, false] [] (rrS a b t r h c)).val = some ([(decide (h ≥ 2), false), (decide (r ≤ 64), true), (decide (r ≥ 2), true), (decide (t > 64), false), (decide (t < 1), false), (decide (b > 256), false), (decide (b < 3), false), (decide (a > 4096), false), (decide (a < 4), false)], .b false) := by kernel_rfl
theorem rrx9 (a b t r h c : Int) : (adv Pr (fun _ => false) 3000 [false, false, false, false, false, false, true, true, true, false] [] (rrS a b t r h c)).val = some ([(decide (h ≤ 64), false), (decide (h ≥ 2), true), (decide (r ≤ 64), true), (decide (r ≥ 2), true), (decide (t > 64), false), (decide (t < 1), false), (decide (b > 256), false), (decide (b < 3), false), (decide (a > 4096), false), (decide (a < 4), false)], .b false) := by kernel_rfl
theorem rrx10 (a b t r h c : Int) : (adv Pr (fun _ => false) 3000 [false, false, false, false, false, false, true, true, true, true, false] [] (rrS a b t r h c)).val = some ([(decide (c ≥ 8), false), (decide (h ≤ 64), true), (decide (h ≥ 2), true), (decide (r ≤ 64), true), (decide (r ≥ 2), true), (decide (t > 64), false), (decide (t < 1), false), (decide (b > 256), false), (decide (b < 3), false), (decide (a > 4096), false), (decide (a < 4), false)], .b false) := by kernel_rfl
theorem rry (a b t r h c : Int) : (adv Pr (fun _ => false) 3000 [false, false, false, false, false, false, true, true, true, true, true] [] (rrS a b t r h c)).val = some ([(decide (c ≥ 8), true), (decide (h ≤ 64), true), (decide (h ≥ 2), true), (decide (r ≤ 64), true), (decide (r ≥ 2), true), (decide (t > 64), false), (decide (t < 1), false), (decide (b > 256), false), (decide (b < 3), false), (decide (a > 4096), false), (decide (a < 4), false)], .v (.bool (decide (c ≤ 1099511627776)))) := by kernel_rfl
def rrB (a b t r h c : Int) : Bool := (!(decide (a < 4))) && ((!(decide (a > 4096))) && ((!(decide (b < 3))) && ((!(decide (b > 256))) && ((!(decide (t < 1))) && ((!(decide (t > 64))) && ((decide (r ≥ 2)) && ((decide (r ≤ 64)) && ((decide (h ≥ 2)) && ((decide (h ≤ 64)) && ((decide (c ≥ 8)) && ((decide (c ≤ 1099511627776)))))))))))))
theorem rr_calls (a b t r h c : Int) (w : World) : Calls Pr 13 #[limV a b t r h c] w fun e w' => ∃ v, e = .returned v ∧ Quiet w w' ∧ v = .bool (rrB a b t r h c) := by
  refine quiet_of_wps (args := [limS a b t r h c]) (vs := [limV a b t r h c]) rmix (enters_of (rr0 a b t r h c)) (by simp [SV.denL, limS_den]) ?_
  cases q0 : decide (a < 4)
  rotate_left 1
  · exact WPs.ends (S := rrS a b t r h c) rmix _ (rrx0 a b t r h c) (obsC q0 obsN) ⟨_, fun _ => rfl, by simp only [rrB, q0, Bool.true_and, Bool.false_and, Bool.not_true, Bool.not_false, Bool.and_false]⟩
  cases q1 : decide (a > 4096)
  rotate_left 1
  · exact WPs.ends (S := rrS a b t r h c) rmix _ (rrx1 a b t r h c) (obsC q1 (obsC q0 obsN)) ⟨_, fun _ => rfl, by simp only [rrB, q0, q1, Bool.true_and, Bool.false_and, Bool.not_true, Bool.not_false, Bool.and_false]⟩
  cases q2 : decide (b < 3)
  rotate_left 1
  · exact WPs.ends (S := rrS a b t r h c) rmix _ (rrx2 a b t r h c) (obsC q2 (obsC q1 (obsC q0 obsN))) ⟨_, fun _ => rfl, by simp only [rrB, q0, q1, q2, Bool.true_and, Bool.false_and, Bool.not_true, Bool.not_false, Bool.and_false]⟩
  cases q3 : decide (b > 256)
  rotate_left 1
  · exact WPs.ends (S := rrS a b t r h c) rmix _ (rrx3 a b t r h c) (obsC q3 (obsC q2 (obsC q1 (obsC q0 obsN)))) ⟨_, fun _ => rfl, by simp only [rrB, q0, q1, q2, q3, Bool.true_and, Bool.false_and, Bool.not_true, Bool.not_false, Bool.and_false]⟩
  cases q4 : decide (t < 1)
  rotate_left 1
  · exact WPs.ends (S := rrS a b t r h c) rmix _ (rrx4 a b t r h c) (obsC q4 (obsC q3 (obsC q2 (obsC q1 (obsC q0 obsN))))) ⟨_, fun _ => rfl, by simp only [rrB, q0, q1, q2, q3, q4, Bool.true_and, Bool.false_and, Bool.not_true, Bool.not_false, Bool.and_false]⟩
  cases q5 : decide (t > 64)
  rotate_left 1
  · exact WPs.ends (S := rrS a b t r h c) rmix _ (rrx5 a b t r h c) (obsC q5 (obsC q4 (obsC q3 (obsC q2 (obsC q1 (obsC q0 obsN)))))) ⟨_, fun _ => rfl, by simp only [rrB, q0, q1, q2, q3, q4, q5, Bool.true_and, Bool.false_and, Bool.not_true, Bool.not_false, Bool.and_false]⟩
  cases q6 : decide (r ≥ 2)
  · exact WPs.ends (S := rrS a b t r h c) rmix _ (rrx6 a b t r h c) (obsC q6 (obsC q5 (obsC q4 (obsC q3 (obsC q2 (obsC q1 (obsC q0 obsN))))))) ⟨_, fun _ => rfl, by simp only [rrB, q0, q1, q2, q3, q4, q5, q6, Bool.true_and, Bool.false_and, Bool.not_true, Bool.not_false, Bool.and_false]⟩
  cases q7 : decide (r ≤ 64)
  · exact WPs.ends (S := rrS a b t r h c) rmix _ (rrx7 a b t r h c) (obsC q7 (obsC q6 (obsC q5 (obsC q4 (obsC q3 (obsC q2 (obsC q1 (obsC q0 obsN)))))))) ⟨_, fun _ => rfl, by simp only [rrB, q0, q1, q2, q3, q4, q5, q6, q7, Bool.true_and, Bool.false_and, Bool.not_true, Bool.not_false, Bool.and_false]⟩
  cases q8 : decide (h ≥ 2)
  · exact WPs.ends (S := rrS a b t r h c) rmix _ (rrx8 a b t r h c) (obsC q8 (obsC q7 (obsC q6 (obsC q5 (obsC q4 (obsC q3 (obsC q2 (obsC q1 (obsC q0 obsN))))))))) ⟨_, fun _ => rfl, by simp only [rrB, q0, q1, q2, q3, q4, q5, q6, q7, q8, Bool.true_and, Bool.false_and, Bool.not_true, Bool.not_false, Bool.and_false]⟩
  cases q9 : decide (h ≤ 64)
  · exact WPs.ends (S := rrS a b t r h c) rmix _ (rrx9 a b t r h c) (obsC q9 (obsC q8 (obsC q7 (obsC q6 (obsC q5 (obsC q4 (obsC q3 (obsC q2 (obsC q1 (obsC q0 obsN)))))))))) ⟨_, fun _ => rfl, by simp only [rrB, q0, q1, q2, q3, q4, q5, q6, q7, q8, q9, Bool.true_and, Bool.false_and, Bool.not_true, Bool.not_false, Bool.and_false]⟩
  cases q10 : decide (c ≥ 8)
  · exact WPs.ends (S := rrS a b t r h c) rmix _ (rrx10 a b t r h c) (obsC q10 (obsC q9 (obsC q8 (obsC q7 (obsC q6 (obsC q5 (obsC q4 (obsC q3 (obsC q2 (obsC q1 (obsC q0 obsN))))))))))) ⟨_, fun _ => rfl, by simp only [rrB, q0, q1, q2, q3, q4, q5, q6, q7, q8, q9, q10, Bool.true_and, Bool.false_and, Bool.not_true, Bool.not_false, Bool.and_false]⟩
  exact WPs.ends (S := rrS a b t r h c) rmix _ (rry a b t r h c) (obsC q10 (obsC q9 (obsC q8 (obsC q7 (obsC q6 (obsC q5 (obsC q4 (obsC q3 (obsC q2 (obsC q1 (obsC q0 obsN))))))))))) ⟨_, fun _ => rfl, by simp only [rrB, q0, q1, q2, q3, q4, q5, q6, q7, q8, q9, q10, Bool.true_and, Bool.not_false]⟩

theorem mr_rr (a b t r h c : Int) : mrB a b t r h c = rrB a b t r h c := by
  unfold mrB rrB
  rw [Bool.eq_iff_iff]
  simp only [Bool.and_eq_true, Bool.not_eq_true', decide_eq_true_eq, decide_eq_false_iff_not]
  omega

end Go.Rl.Z
