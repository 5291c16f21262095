/-
  Proved: 'Rows.TopStoresSaid': for every input the law 'TopStores' comes to true, and the argument reads afterwards as it read before.
  Conditions: none.
-/
import Derived.Test.YtghmpcnchjjikaaGreatRows
import Derived.WalkKit
import Derived.ProofKit
import Derived.OpenShut
import Derived.ShutString
import Derived.ChangeOld
import Derived.SizedLaws
import Derived.Below
import Derived.Test.YtghmpcnchjjikaaGreatRlZta
import Derived.Test.YtghmpcnchjjikaaGreatRlZj4
set_option linter.all false
set_option linter.unusedVariables false
set_option linter.unusedSimpArgs false
set_option linter.unnecessarySimpa false
namespace Go.Proofs.YtghmpcnchjjikaaGreat
open Go.ChangeShapes Go.WideShapes Go.ChangeAt Go.RowKit
open Go.Rl (Quiet)

theorem tc_own : ownKnob Tryz.prog.godebug = none := by kernel_rfl
theorem tc_laidOut : laidOutB Tryz.prog = true := by kernel_rfl

theorem below_of_quiet {w w' : World} (h : Quiet w w') : Below w.heap.size w w' := ⟨h.os, h.tape, h.output, h.size, fun _ hk => h.old hk⟩

set_option maxRecDepth 100000 in
theorem tc_lifted (os : Os) (started : os.Started) (H : Type) (enc : TypeId × Value → H) :
    ReturnsInHanded {} Tryz.checked os 4 .any (Rows.topStoresSpec.pre6 enc Tryz.prog Tryz.f4 Rows.topStoresRow.domain false) (Rows.topStoresSpec.post enc Tryz.prog Tryz.f4 false true false false) := by
  refine returnsInHanded_of_change_sized (C := Tryz.checked) tc_own started (by kernel_rfl) Tryz.func4
    (ChangeSpec.witness6 (enc := enc) (C := Tryz.checked) false ⟨#[], #[.agg #[.int .i64 0, .int .i64 0, .int .i64 0, .int .i64 0, .int .i64 0, .int .i64 0, .slice none 0 0, .slice none 0 0]], []⟩ 8 (by kernel_rfl) (by kernel_rfl) (by kernel_rfl) (by kernel_rfl)) ?_
  intro W base args ds gs before hval0 hW hcnd hsz _
  have hval : ∀ (j : Nat) t v, Tryz.f4.params[j]? = some t → args[j]? = some v → Value.okWide Tryz.prog W .any base t v := hval0
  have hW' := hW
  obtain ⟨p, q, hA0, hV, rfl, hfz, hnd⟩ := hW
  have hA : DataW.TrodAll enc Tryz.prog W 0 (fun _ => true) true Tryz.f4.params.toList args.toList ds p := hA0
  rw [Tryz.params4] at hA hval
  obtain ⟨v0, vs0, d0, ds0, p0, q0, hargs, rfl, rfl, h0, r0⟩ := trodAll_cons hA
  obtain ⟨rfl, rfl, rfl⟩ := trodAll_nil r0
  obtain rfl : args = #[v0] := by cases args; simp_all
  obtain ⟨rfl, rfl⟩ := trodVars_none hV
  have k0 := h0
  have lt0 : ∀ x ∈ p0, x.block < W.heap.size := by obtain ⟨m, hm⟩ := k0; exact DataW.trod_lt m _ _ _ hm
  obtain ⟨cs0, rfl, hs0⟩ := okWide_struct Tryz.underlying55 (hval 0 55 v0 rfl rfl)
  obtain ⟨fuel0, hf0⟩ := h0
  have h8 : Tryz.prog.cellsOf 55 = 8 := by kernel_rfl
  have hz : ∀ n ∈ d0.weights Tryz.prog 55, n ≤ reachBytes := by
    intro n hn
    have := List.all_eq_true.1 hsz n (DataW.weights_mem_each (j := 0) (t := 55) (d := d0) (by rw [Tryz.params4]; rfl) rfl n hn)
    simpa using this
  obtain ⟨pp, bs, tb, tn, tc, hcs, hn, hPl⟩ := Go.Rl.Z.play_in (by simpa [Value.cells, h8] using hs0) hf0 hz
  have hcs' : cs0 = #[.int .i64 pp.a, .int .i64 pp.b, .int .i64 pp.t, .int .i64 pp.r, .int .i64 pp.h, .int .i64 pp.c, .slice bs pp.n pp.cap, .slice tb tn tc] := by
    apply Array.ext'
    simpa [Value.cells] using hcs
  subst hcs'
  clear hA0 hval0
  refine (Go.Rl.Z.ts_calls pp W (fun b => W.heap[b]?) bs tb tn tc (fun b o hb => hb) hn hPl).mono fun e W' ⟨he, hq⟩ => ?_
  subst he
  have bel := below_of_quiet hq
  exact ⟨_, rfl, _, _, _, [], _, [], hW', trodAll_mk1 (shut_bool Tryz.underlying4 _),
    (trodAll_cons_mk (Below.trod tc_laidOut (by kernel_rfl) (of_decide_eq_true (by kernel_rfl)) k0 bel lt0) trodAll_mk0), rfl, bel.frame _, fun h => by cases h⟩

theorem topStores_proved : Rows.TopStoresSaid :=
  OpenClaim.holds_of_wide 4 Tryz.f4 rfl rfl rfl rfl rfl rfl rfl ⟨rfl, rfl, rfl, rfl, rfl⟩ rfl rfl rfl rfl rfl (by kernel_rfl) Tryz.func4 jf4All
    (of_decide_eq_true (by kernel_rfl)) (by unfold Func.isWrapper; first | (rw [if_pos (by decide +kernel)]; kernel_rfl) | (rw [if_neg (by decide +kernel)]; exact ⟨rfl, rfl⟩))
    (fun os started H enc _ => tc_lifted os started H enc)
#print axioms topStores_proved
end Go.Proofs.YtghmpcnchjjikaaGreat
