/- The closed facts of the row of HideNone, each by the kernel. No condition. -/
import Derived.Test.YtjmdmpfekoinbaaGreatRows
import Derived.Test.YtjmdmpfekoinbaaGreatJoined
import Derived.KernelRfl
namespace Go.Proofs.YtjmdmpfekoinbaaGreat.hideNone
open Go
theorem fact1 : (Rows.hideNoneRow.wf (OpenSpec.ofChange Rows.hideNoneSpec)) = true := by kernel_rfl
theorem fact2 : (laidOutB Tryz.prog) = true := by kernel_rfl
theorem fact3 : (mapsRowed Tryz.prog) = true := by kernel_rfl
theorem fact4 : (Tryz.f5.params.all (Tryz.prog.readableRec ·)) = true := by kernel_rfl
theorem fact5 : (namedTie Tryz.prog Rows.hideNoneRow.named Rows.hideNoneSpec.vars) = true := by kernel_rfl
theorem fact6 : ((Rows.hideNoneRow.stops == [])) = true := by kernel_rfl
theorem fact7 : ((Tryz.prog.stops == [])) = true := by kernel_rfl
theorem fact8 : ((Rows.hideNoneRow.knobs == [])) = true := by kernel_rfl
theorem fact9 : ((Tryz.prog.stopKnobs == [])) = true := by kernel_rfl
theorem fact10 : ((Rows.hideNoneRow.inPlace == Tryz.prog.inPlace 5)) = true := by kernel_rfl
theorem fact11 : ((Rows.hideNoneRow.unfollowed == Tryz.prog.unfollowed 5)) = true := by kernel_rfl
theorem fact12 : ((Rows.hideNoneRow.recurses == Tryz.prog.recurses 5)) = true := by kernel_rfl
theorem fact13 : ((Rows.hideNoneRow.named == Tryz.prog.varsNamed 5)) = true := by kernel_rfl
theorem fact14 : ((Rows.hideNoneRow.maps == (Tryz.f5.params.toList ++ Rows.hideNoneSpec.plain.varTypes Tryz.prog).any (Tryz.prog.mapsRec ·))) = true := by kernel_rfl
theorem fact15 : ((Rows.hideNoneRow.ifaces == (Tryz.f5.params.toList ++ Rows.hideNoneSpec.plain.varTypes Tryz.prog).any (Tryz.prog.ifacesRec ·))) = true := by kernel_rfl
theorem fact16 : ((Rows.hideNoneRow.mapsOut == Tryz.prog.mapsAmong Tryz.f5.resultTypes.toList)) = true := by kernel_rfl
theorem fact17 : ((Rows.hideNoneRow.loops == (Tryz.f5.params.toList ++ Rows.hideNoneSpec.plain.varTypes Tryz.prog).any (Tryz.prog.loopsFrom ·))) = true := by kernel_rfl
theorem fact18 : ((Rows.hideNoneRow.wideKeys == (Tryz.f5.params.toList ++ Rows.hideNoneSpec.plain.varTypes Tryz.prog ++ Tryz.f5.resultTypes.toList).any (Tryz.prog.wideKeysFrom ·))) = true := by kernel_rfl
theorem fact19 : (Rows.hideNoneSpec.vars.all (Tryz.prog.varReadable ·)) = true := by kernel_rfl
theorem fact20 : (Tryz.f5.resultTypes.all (fun t => Tryz.prog.readableRec t && decide (t < Tryz.prog.types.size))) = true := by kernel_rfl
theorem fact21 : ((Rows.hideNoneRow.ifacesOut == Tryz.f5.resultTypes.toList.any (Tryz.prog.ifacesRec ·))) = true := by kernel_rfl
theorem fact22 : ((Rows.hideNoneRow.loopsOut == Tryz.f5.resultTypes.toList.any (Tryz.prog.loopsFrom ·))) = true := by kernel_rfl
theorem fact23 : ((Rows.hideNoneRow.plainKeys == Tryz.prog.plainKeys)) = true := by kernel_rfl
theorem fact24 : (Rows.hideNoneRow.shortTexts.isNone) = true := by kernel_rfl
theorem fact25 : (Tryz.prog.stopsHeard) = true := by kernel_rfl
theorem fact26 : (Tryz.prog.mayEnter) = true := by kernel_rfl
theorem fact27 : ((Rows.hideNoneRow.lifted == Tryz.prog.liftsFinal)) = true := by kernel_rfl
theorem fact28 : ((Tryz.prog.make == some Rows.hideNoneRow.make)) = true := by kernel_rfl
theorem fact29 : ((Rows.hideNoneRow.kinds == (if Rows.hideNoneRow.domain.isEmpty then [] else Tryz.f5.params.toList.map fun t => match Tryz.prog.underlying t with | some (.int k) => some k | _ => none))) = true := by kernel_rfl
theorem fact30 : ((Rows.hideNoneRow.pinned == Rows.hideNoneRow.pinnedBy)) = true := by kernel_rfl
theorem fact31 : ((Rows.hideNoneRow.veiled == (Tryz.f5.params.toList ++ Rows.hideNoneSpec.plain.varTypes Tryz.prog ++ Tryz.f5.resultTypes.toList).any (Tryz.prog.veiledRec ·))) = true := by kernel_rfl
theorem fact32 : (Rows.hideNoneRow.veiledFits Tryz.prog Tryz.f5.params.toList (Tryz.f5.params.toList ++ Rows.hideNoneSpec.plain.varTypes Tryz.prog ++ Tryz.f5.resultTypes.toList)) = true := by kernel_rfl
end Go.Proofs.YtjmdmpfekoinbaaGreat.hideNone
