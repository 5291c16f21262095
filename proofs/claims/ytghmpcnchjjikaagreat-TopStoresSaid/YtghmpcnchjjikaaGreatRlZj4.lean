/-
  What the row of 'TopStores' is forced to say, fact by fact.
-/
import Derived.Test.YtghmpcnchjjikaaGreatRows
import Derived.JoinedOf
import Derived.KernelRfl
set_option linter.all false
set_option linter.unusedVariables false
set_option linter.unusedSimpArgs false
set_option linter.unnecessarySimpa false
namespace Go.Proofs.YtghmpcnchjjikaaGreat
set_option maxRecDepth 100000
theorem and_tt4 {a b : Bool} (h : a = true) (k : b = true) : (a && b) = true := by rw [h, k]; rfl
theorem kf0 : (Rows.topStoresRow.wf (OpenSpec.ofChange Rows.topStoresSpec)) = true := by kernel_rfl
theorem kf1 : (laidOutB Tryz.prog) = true := by kernel_rfl
theorem kf2 : (mapsRowed Tryz.prog) = true := by kernel_rfl
theorem kf3 : (Tryz.f4.params.all (Tryz.prog.readableRec ·)) = true := by kernel_rfl
theorem kf4 : (namedTie Tryz.prog Rows.topStoresRow.named Rows.topStoresSpec.vars) = true := by kernel_rfl
theorem kf5 : ((Rows.topStoresRow.stops == [])) = true := by kernel_rfl
theorem kf6 : ((Tryz.prog.stops == [])) = true := by kernel_rfl
theorem kf7 : ((Rows.topStoresRow.knobs == [])) = true := by kernel_rfl
theorem kf8 : ((Tryz.prog.stopKnobs == [])) = true := by kernel_rfl
theorem kf9 : ((Rows.topStoresRow.inPlace == Tryz.prog.inPlace 4)) = true := by kernel_rfl
theorem kf10 : ((Rows.topStoresRow.unfollowed == Tryz.prog.unfollowed 4)) = true := by kernel_rfl
theorem kf11 : ((Rows.topStoresRow.recurses == Tryz.prog.recurses 4)) = true := by kernel_rfl
theorem kf12 : ((Rows.topStoresRow.named == Tryz.prog.varsNamed 4)) = true := by kernel_rfl
theorem kf13 : ((Rows.topStoresRow.maps == (Tryz.f4.params.toList ++ Rows.topStoresSpec.plain.varTypes Tryz.prog).any (Tryz.prog.mapsRec ·))) = true := by kernel_rfl
theorem kf14 : ((Rows.topStoresRow.ifaces == (Tryz.f4.params.toList ++ Rows.topStoresSpec.plain.varTypes Tryz.prog).any (Tryz.prog.ifacesRec ·))) = true := by kernel_rfl
theorem kf15 : ((Rows.topStoresRow.mapsOut == Tryz.prog.mapsAmong Tryz.f4.resultTypes.toList)) = true := by kernel_rfl
theorem kf16 : ((Rows.topStoresRow.loops == (Tryz.f4.params.toList ++ Rows.topStoresSpec.plain.varTypes Tryz.prog).any (Tryz.prog.loopsFrom ·))) = true := by kernel_rfl
theorem kf17 : ((Rows.topStoresRow.wideKeys == (Tryz.f4.params.toList ++ Rows.topStoresSpec.plain.varTypes Tryz.prog ++ Tryz.f4.resultTypes.toList).any (Tryz.prog.wideKeysFrom ·))) = true := by kernel_rfl
theorem kf18 : (Rows.topStoresSpec.vars.all (Tryz.prog.varReadable ·)) = true := by kernel_rfl
theorem kf19 : (Tryz.f4.resultTypes.all (fun t => Tryz.prog.readableRec t && decide (t < Tryz.prog.types.size))) = true := by kernel_rfl
theorem kf20 : ((Rows.topStoresRow.ifacesOut == Tryz.f4.resultTypes.toList.any (Tryz.prog.ifacesRec ·))) = true := by kernel_rfl
theorem kf21 : ((Rows.topStoresRow.loopsOut == Tryz.f4.resultTypes.toList.any (Tryz.prog.loopsFrom ·))) = true := by kernel_rfl
theorem kf22 : ((Rows.topStoresRow.plainKeys == Tryz.prog.plainKeys)) = true := by kernel_rfl
theorem kf23 : (Rows.topStoresRow.shortTexts.isNone) = true := by kernel_rfl
theorem kf24 : (Tryz.prog.stopsHeard) = true := by kernel_rfl
theorem kf25 : (Tryz.prog.mayEnter) = true := by kernel_rfl
theorem kf26 : ((Rows.topStoresRow.lifted == Tryz.prog.liftsFinal)) = true := by kernel_rfl
theorem kf27 : ((Tryz.prog.make == some Rows.topStoresRow.make)) = true := by kernel_rfl
theorem kf28 : ((Rows.topStoresRow.kinds == (if Rows.topStoresRow.domain.isEmpty then [] else Tryz.f4.params.toList.map fun t => match Tryz.prog.underlying t with | some (.int k) => some k | _ => none))) = true := by kernel_rfl
theorem kf29 : ((Rows.topStoresRow.pinned == Rows.topStoresRow.pinnedBy)) = true := by kernel_rfl
theorem kf30 : ((Rows.topStoresRow.veiled == (Tryz.f4.params.toList ++ Rows.topStoresSpec.plain.varTypes Tryz.prog ++ Tryz.f4.resultTypes.toList).any (Tryz.prog.veiledRec ·))) = true := by kernel_rfl
theorem kf31 : (Rows.topStoresRow.veiledFits Tryz.prog Tryz.f4.params.toList (Tryz.f4.params.toList ++ Rows.topStoresSpec.plain.varTypes Tryz.prog ++ Tryz.f4.resultTypes.toList)) = true := by kernel_rfl
theorem jf4All : joinedFacts Tryz.prog 4 Tryz.f4 Rows.topStoresSpec Rows.topStoresRow = true := by
  unfold joinedFacts
  exact and_tt4 (and_tt4 (and_tt4 (and_tt4 (and_tt4 (and_tt4 (and_tt4 (and_tt4 (and_tt4 (and_tt4 (and_tt4 (and_tt4 (and_tt4 (and_tt4 (and_tt4 (and_tt4 (and_tt4 (and_tt4 (and_tt4 (and_tt4 (and_tt4 (and_tt4 (and_tt4 (and_tt4 (and_tt4 (and_tt4 (and_tt4 (and_tt4 (and_tt4 (and_tt4 (and_tt4 (kf0) kf1) kf2) kf3) kf4) kf5) kf6) kf7) kf8) kf9) kf10) kf11) kf12) kf13) kf14) kf15) kf16) kf17) kf18) kf19) kf20) kf21) kf22) kf23) kf24) kf25) kf26) kf27) kf28) kf29) kf30) kf31
end Go.Proofs.YtghmpcnchjjikaaGreat
