/-
  Proved: 'Rows.TxnCallsSaid': for every input the law 'TxnCalls' comes to true, and each argument reads afterwards as it read before.
  Conditions: none.
-/
import Derived.Test.YtghmpcnchjjikaaGreatRows
import Derived.WalkKit
import Derived.ProofKit
import Derived.OpenShut
import Derived.ShutString
import Derived.ChangeOld
import Derived.Below
import Derived.Test.YtghmpcnchjjikaaGreatRlZarg
import Derived.Test.YtghmpcnchjjikaaGreatRlZjf
set_option linter.all false
set_option linter.unusedVariables false
set_option linter.unusedSimpArgs false
set_option linter.unnecessarySimpa false
namespace Go.Proofs.YtghmpcnchjjikaaGreat
open Go.ChangeShapes Go.WideShapes Go.ChangeAt Go.RowKit
open Go.Rl (Quiet)

theorem tc_own : ownKnob Tryz.prog.godebug = none := by kernel_rfl
theorem tc_laidOut : laidOutB Tryz.prog = true := by kernel_rfl

theorem below_of_quiet {w w' : World} (h : Quiet w w') : Below w.heap.size w w' := ⟨h.os, h.tape, h.output, h.size, fun _ hk => h.old hk⟩

set_option maxRecDepth 100000 in
theorem tc_lifted (os : Os) (started : os.Started) (H : Type) (enc : TypeId × Value → H) :
    ReturnsInHanded {} Tryz.checked os 3 .any (Rows.txnCallsSpec.pre6 enc Tryz.prog Tryz.f3 Rows.txnCallsRow.domain false) (Rows.txnCallsSpec.post enc Tryz.prog Tryz.f3 false true false false) := by
  refine returnsInHanded_of_change (C := Tryz.checked) tc_own started (by kernel_rfl) Tryz.func3
    (ChangeSpec.witness6 (enc := enc) (C := Tryz.checked) false ⟨#[], #[.agg #[.int .i64 0, .int .i64 0, .int .i64 0, .int .i64 0, .int .i64 0, .int .i64 0], .slice none 0 0], []⟩ 8 (by kernel_rfl) (by kernel_rfl) (by kernel_rfl) (by kernel_rfl)) ?_
  intro W base args ds gs before hval0 hW hcnd _
  have hval : ∀ (j : Nat) t v, Tryz.f3.params[j]? = some t → args[j]? = some v → Value.okWide Tryz.prog W .any base t v := hval0
  have hW' := hW
  obtain ⟨p, q, hA0, hV, rfl, hfz, hnd⟩ := hW
  have hA : DataW.TrodAll enc Tryz.prog W 0 (fun _ => true) true Tryz.f3.params.toList args.toList ds p := hA0
  rw [Tryz.params3] at hA hval
  obtain ⟨v0, vs0, d0, ds0, p0, q0, hargs, rfl, rfl, h0, r0⟩ := trodAll_cons hA
  obtain ⟨v1, vs1, d1, ds1, p1, q1, rfl, rfl, rfl, h1, r1⟩ := trodAll_cons r0
  obtain ⟨rfl, rfl, rfl⟩ := trodAll_nil r1
  obtain rfl : args = #[v0, v1] := by cases args; simp_all
  obtain ⟨rfl, rfl⟩ := trodVars_none hV
  have k0 := h0
  have k1 := h1
  have lt0 : ∀ x ∈ p0, x.block < W.heap.size := by obtain ⟨m, hm⟩ := k0; exact DataW.trod_lt m _ _ _ hm
  have lt1 : ∀ x ∈ p1, x.block < W.heap.size := by obtain ⟨m, hm⟩ := k1; exact DataW.trod_lt m _ _ _ hm
  obtain ⟨cs0, rfl, hs0⟩ := okWide_struct Tryz.underlying23 (hval 0 23 v0 rfl rfl)
  obtain ⟨a1, len1, cap1, rfl⟩ := okWide_slice Tryz.underlying24 (hval 1 24 v1 rfl rfl)
  obtain ⟨fuel0, hf0⟩ := h0
  obtain ⟨fuel1, hf1⟩ := h1
  have h6 : Tryz.prog.cellsOf 23 = 6 := by kernel_rfl
  obtain ⟨a, b, t, r, h, c, hcs⟩ := Go.Rl.Z.lim_of (by simpa [Value.cells, h6] using hs0) hf0
  have hcs' : cs0 = #[.int .i64 a, .int .i64 b, .int .i64 t, .int .i64 r, .int .i64 h, .int .i64 c] := by
    apply Array.ext'
    simpa [Value.cells] using hcs
  subst hcs'
  have hacts : Go.Rl.Z.Acts W a1 len1 := Go.Rl.Z.acts_of (cap := cap1) hf1
  clear hA0 hval0
  refine (Go.Rl.Z.tc_calls a b t r h c len1 cap1 W a1 hacts).mono fun e W' ⟨he, hq⟩ => ?_
  subst he
  have bel := below_of_quiet hq
  exact ⟨_, rfl, _, _, _, [], _, [], hW', trodAll_mk1 (shut_bool Tryz.underlying4 _),
    (trodAll_cons_mk (Below.trod tc_laidOut (by kernel_rfl) (of_decide_eq_true (by kernel_rfl)) k0 bel lt0)
      (trodAll_cons_mk (Below.trod tc_laidOut (by kernel_rfl) (of_decide_eq_true (by kernel_rfl)) k1 bel lt1) trodAll_mk0)), rfl, bel.frame _, fun h => by cases h⟩

theorem txnCalls_proved : Rows.TxnCallsSaid :=
  OpenClaim.holds_of_wide 3 Tryz.f3 rfl rfl rfl rfl rfl rfl rfl ⟨rfl, rfl, rfl, rfl, rfl⟩ rfl rfl rfl rfl rfl (by kernel_rfl) Tryz.func3 jfAll
    (of_decide_eq_true (by kernel_rfl)) (by unfold Func.isWrapper; first | (rw [if_pos (by decide +kernel)]; kernel_rfl) | (rw [if_neg (by decide +kernel)]; exact ⟨rfl, rfl⟩))
    (fun os started H enc _ => tc_lifted os started H enc)
#print axioms txnCalls_proved
end Go.Proofs.YtghmpcnchjjikaaGreat
