/- The closed facts of the row of HideTwice, each by the kernel. No condition. -/
import Derived.Test.YtjmdmpfekoinbaaGreatRows
import Derived.Test.YtjmdmpfekoinbaaGreatJoined
import Derived.KernelRfl
namespace Go.Proofs.YtjmdmpfekoinbaaGreat.hideTwice
open Go
theorem fact1 : (Rows.hideTwiceRow.wf (OpenSpec.ofChange Rows.hideTwiceSpec)) = true := by kernel_rfl
theorem fact2 : (laidOutB Tryz.prog) = true := by kernel_rfl
theorem fact3 : (mapsRowed Tryz.prog) = true := by kernel_rfl
theorem fact4 : (Tryz.f7.params.all (Tryz.prog.readableRec ·)) = true := by kernel_rfl
theorem fact5 : (namedTie Tryz.prog Rows.hideTwiceRow.named Rows.hideTwiceSpec.vars) = true := by kernel_rfl
theorem fact6 : ((Rows.hideTwiceRow.stops == [])) = true := by kernel_rfl
theorem fact7 : ((Tryz.prog.stops == [])) = true := by kernel_rfl
theorem fact8 : ((Rows.hideTwiceRow.knobs == [])) = true := by kernel_rfl
theorem fact9 : ((Tryz.prog.stopKnobs == [])) = true := by kernel_rfl
theorem fact10 : ((Rows.hideTwiceRow.inPlace == Tryz.prog.inPlace 7)) = true := by kernel_rfl
theorem fact11 : ((Rows.hideTwiceRow.unfollowed == Tryz.prog.unfollowed 7)) = true := by kernel_rfl
theorem fact12 : ((Rows.hideTwiceRow.recurses == Tryz.prog.recurses 7)) = true := by kernel_rfl
theorem fact13 : ((Rows.hideTwiceRow.named == Tryz.prog.varsNamed 7)) = true := by kernel_rfl
theorem fact14 : ((Rows.hideTwiceRow.maps == (Tryz.f7.params.toList ++ Rows.hideTwiceSpec.plain.varTypes Tryz.prog).any (Tryz.prog.mapsRec ·))) = true := by kernel_rfl
theorem fact15 : ((Rows.hideTwiceRow.ifaces == (Tryz.f7.params.toList ++ Rows.hideTwiceSpec.plain.varTypes Tryz.prog).any (Tryz.prog.ifacesRec ·))) = true := by kernel_rfl
theorem fact16 : ((Rows.hideTwiceRow.mapsOut == Tryz.prog.mapsAmong Tryz.f7.resultTypes.toList)) = true := by kernel_rfl
theorem fact17 : ((Rows.hideTwiceRow.loops == (Tryz.f7.params.toList ++ Rows.hideTwiceSpec.plain.varTypes Tryz.prog).any (Tryz.prog.loopsFrom ·))) = true := by kernel_rfl
theorem fact18 : ((Rows.hideTwiceRow.wideKeys == (Tryz.f7.params.toList ++ Rows.hideTwiceSpec.plain.varTypes Tryz.prog ++ Tryz.f7.resultTypes.toList).any (Tryz.prog.wideKeysFrom ·))) = true := by kernel_rfl
theorem fact19 : (Rows.hideTwiceSpec.vars.all (Tryz.prog.varReadable ·)) = true := by kernel_rfl
theorem fact20 : (Tryz.f7.resultTypes.all (fun t => Tryz.prog.readableRec t && decide (t < Tryz.prog.types.size))) = true := by kernel_rfl
theorem fact21 : ((Rows.hideTwiceRow.ifacesOut == Tryz.f7.resultTypes.toList.any (Tryz.prog.ifacesRec ·))) = true := by kernel_rfl
theorem fact22 : ((Rows.hideTwiceRow.loopsOut == Tryz.f7.resultTypes.toList.any (Tryz.prog.loopsFrom ·))) = true := by kernel_rfl
theorem fact23 : ((Rows.hideTwiceRow.plainKeys == Tryz.prog.plainKeys)) = true := by kernel_rfl
theorem fact24 : (Rows.hideTwiceRow.shortTexts.isNone) = true := by kernel_rfl
theorem fact25 : (Tryz.prog.stopsHeard) = true := by kernel_rfl
theorem fact26 : (Tryz.prog.mayEnter) = true := by kernel_rfl
theorem fact27 : ((Rows.hideTwiceRow.lifted == Tryz.prog.liftsFinal)) = true := by kernel_rfl
theorem fact28 : ((Tryz.prog.make == some Rows.hideTwiceRow.make)) = true := by kernel_rfl
theorem fact29 : ((Rows.hideTwiceRow.kinds == (if Rows.hideTwiceRow.domain.isEmpty then [] else Tryz.f7.params.toList.map fun t => match Tryz.prog.underlying t with | some (.int k) => some k | _ => none))) = true := by kernel_rfl
theorem fact30 : ((Rows.hideTwiceRow.pinned == Rows.hideTwiceRow.pinnedBy)) = true := by kernel_rfl
theorem fact31 : ((Rows.hideTwiceRow.veiled == (Tryz.f7.params.toList ++ Rows.hideTwiceSpec.plain.varTypes Tryz.prog ++ Tryz.f7.resultTypes.toList).any (Tryz.prog.veiledRec ·))) = true := by kernel_rfl
theorem fact32 : (Rows.hideTwiceRow.veiledFits Tryz.prog Tryz.f7.params.toList (Tryz.f7.params.toList ++ Rows.hideTwiceSpec.plain.varTypes Tryz.prog ++ Tryz.f7.resultTypes.toList)) = true := by kernel_rfl
end Go.Proofs.YtjmdmpfekoinbaaGreat.hideTwice
