/- The closed facts of the row of TopStays, one by one. -/
import Derived.Test.YtgpgiejcnicigaaGreatDoorRows
import Derived.JoinedOf
namespace Go.Proofs.YtgpgiejcnicigaaGreatDoor.J
open Go
theorem c1 : (Rows.topStaysRow.wf (OpenSpec.ofChange Rows.topStaysSpec)) = true := by kernel_rfl
theorem c2 : (laidOutB Tryz.prog) = true := by kernel_rfl
theorem c3 : (mapsRowed Tryz.prog) = true := by kernel_rfl
theorem c4 : (Tryz.f3.params.all (Tryz.prog.readableRec ·)) = true := by kernel_rfl
theorem c5 : (namedTie Tryz.prog Rows.topStaysRow.named Rows.topStaysSpec.vars) = true := by kernel_rfl
theorem c6 : ((Rows.topStaysRow.stops == [])) = true := by kernel_rfl
theorem c7 : ((Tryz.prog.stops == [])) = true := by kernel_rfl
theorem c8 : ((Rows.topStaysRow.knobs == [])) = true := by kernel_rfl
theorem c9 : ((Tryz.prog.stopKnobs == [])) = true := by kernel_rfl
theorem c10 : ((Rows.topStaysRow.inPlace == Tryz.prog.inPlace 3)) = true := by kernel_rfl
theorem c11 : ((Rows.topStaysRow.unfollowed == Tryz.prog.unfollowed 3)) = true := by kernel_rfl
theorem c12 : ((Rows.topStaysRow.recurses == Tryz.prog.recurses 3)) = true := by kernel_rfl
theorem c13 : ((Rows.topStaysRow.named == Tryz.prog.varsNamed 3)) = true := by kernel_rfl
theorem c14 : ((Rows.topStaysRow.maps == (Tryz.f3.params.toList ++ Rows.topStaysSpec.plain.varTypes Tryz.prog).any (Tryz.prog.mapsRec ·))) = true := by kernel_rfl
theorem c15 : ((Rows.topStaysRow.ifaces == (Tryz.f3.params.toList ++ Rows.topStaysSpec.plain.varTypes Tryz.prog).any (Tryz.prog.ifacesRec ·))) = true := by kernel_rfl
theorem c16 : ((Rows.topStaysRow.mapsOut == Tryz.prog.mapsAmong Tryz.f3.resultTypes.toList)) = true := by kernel_rfl
theorem c17 : ((Rows.topStaysRow.loops == (Tryz.f3.params.toList ++ Rows.topStaysSpec.plain.varTypes Tryz.prog).any (Tryz.prog.loopsFrom ·))) = true := by kernel_rfl
theorem c18 : ((Rows.topStaysRow.wideKeys == (Tryz.f3.params.toList ++ Rows.topStaysSpec.plain.varTypes Tryz.prog ++ Tryz.f3.resultTypes.toList).any (Tryz.prog.wideKeysFrom ·))) = true := by kernel_rfl
theorem c19 : (Rows.topStaysSpec.vars.all (Tryz.prog.varReadable ·)) = true := by kernel_rfl
theorem c20 : (Tryz.f3.resultTypes.all (fun t => Tryz.prog.readableRec t && decide (t < Tryz.prog.types.size))) = true := by kernel_rfl
theorem c21 : ((Rows.topStaysRow.ifacesOut == Tryz.f3.resultTypes.toList.any (Tryz.prog.ifacesRec ·))) = true := by kernel_rfl
theorem c22 : ((Rows.topStaysRow.loopsOut == Tryz.f3.resultTypes.toList.any (Tryz.prog.loopsFrom ·))) = true := by kernel_rfl
theorem c23 : ((Rows.topStaysRow.plainKeys == Tryz.prog.plainKeys)) = true := by kernel_rfl
theorem c24 : (Rows.topStaysRow.shortTexts.isNone) = true := by kernel_rfl
theorem c25 : (Tryz.prog.stopsHeard) = true := by kernel_rfl
theorem c26 : (Tryz.prog.mayEnter) = true := by kernel_rfl
theorem c27 : ((Rows.topStaysRow.lifted == Tryz.prog.liftsFinal)) = true := by kernel_rfl
theorem c28 : ((Tryz.prog.make == some Rows.topStaysRow.make)) = true := by kernel_rfl
theorem c30 : ((Rows.topStaysRow.pinned == Rows.topStaysRow.pinnedBy)) = true := by kernel_rfl
theorem c31 : ((Rows.topStaysRow.veiled == (Tryz.f3.params.toList ++ Rows.topStaysSpec.plain.varTypes Tryz.prog ++ Tryz.f3.resultTypes.toList).any (Tryz.prog.veiledRec ·))) = true := by kernel_rfl
theorem c32 : (Rows.topStaysRow.veiledFits Tryz.prog Tryz.f3.params.toList (Tryz.f3.params.toList ++ Rows.topStaysSpec.plain.varTypes Tryz.prog ++ Tryz.f3.resultTypes.toList)) = true := by kernel_rfl
theorem a {a b : Bool} (h : a = true) (k : b = true) : (a && b) = true := by rw [h, k]; rfl
theorem closed : joinedFacts Tryz.prog 3 Tryz.f3 Rows.topStaysSpec Rows.topStaysRow = true :=
  (a (a (a (a (a (a (a (a (a (a (a (a (a (a (a (a (a (a (a (a (a (a (a (a (a (a (a (a (a (a (a c1 c2) c3) c4) c5) c6) c7) c8) c9) c10) c11) c12) c13) c14) c15) c16) c17) c18) c19) c20) c21) c22) c23) c24) c25) c26) c27) c28) (by kernel_rfl)) c30) c31) c32)
end Go.Proofs.YtgpgiejcnicigaaGreatDoor.J
