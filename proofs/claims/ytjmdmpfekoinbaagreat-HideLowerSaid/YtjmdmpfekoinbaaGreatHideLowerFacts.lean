/- The closed facts of the row of HideLower, each by the kernel. No condition. -/
import Derived.Test.YtjmdmpfekoinbaaGreatRows
import Derived.Test.YtjmdmpfekoinbaaGreatJoined
import Derived.KernelRfl
namespace Go.Proofs.YtjmdmpfekoinbaaGreat.hideLower
open Go
theorem fact1 : (Rows.hideLowerRow.wf (OpenSpec.ofChange Rows.hideLowerSpec)) = true := by kernel_rfl
theorem fact2 : (laidOutB Tryz.prog) = true := by kernel_rfl
theorem fact3 : (mapsRowed Tryz.prog) = true := by kernel_rfl
theorem fact4 : (Tryz.f6.params.all (Tryz.prog.readableRec ·)) = true := by kernel_rfl
theorem fact5 : (namedTie Tryz.prog Rows.hideLowerRow.named Rows.hideLowerSpec.vars) = true := by kernel_rfl
theorem fact6 : ((Rows.hideLowerRow.stops == [])) = true := by kernel_rfl
theorem fact7 : ((Tryz.prog.stops == [])) = true := by kernel_rfl
theorem fact8 : ((Rows.hideLowerRow.knobs == [])) = true := by kernel_rfl
theorem fact9 : ((Tryz.prog.stopKnobs == [])) = true := by kernel_rfl
theorem fact10 : ((Rows.hideLowerRow.inPlace == Tryz.prog.inPlace 6)) = true := by kernel_rfl
theorem fact11 : ((Rows.hideLowerRow.unfollowed == Tryz.prog.unfollowed 6)) = true := by kernel_rfl
theorem fact12 : ((Rows.hideLowerRow.recurses == Tryz.prog.recurses 6)) = true := by kernel_rfl
theorem fact13 : ((Rows.hideLowerRow.named == Tryz.prog.varsNamed 6)) = true := by kernel_rfl
theorem fact14 : ((Rows.hideLowerRow.maps == (Tryz.f6.params.toList ++ Rows.hideLowerSpec.plain.varTypes Tryz.prog).any (Tryz.prog.mapsRec ·))) = true := by kernel_rfl
theorem fact15 : ((Rows.hideLowerRow.ifaces == (Tryz.f6.params.toList ++ Rows.hideLowerSpec.plain.varTypes Tryz.prog).any (Tryz.prog.ifacesRec ·))) = true := by kernel_rfl
theorem fact16 : ((Rows.hideLowerRow.mapsOut == Tryz.prog.mapsAmong Tryz.f6.resultTypes.toList)) = true := by kernel_rfl
theorem fact17 : ((Rows.hideLowerRow.loops == (Tryz.f6.params.toList ++ Rows.hideLowerSpec.plain.varTypes Tryz.prog).any (Tryz.prog.loopsFrom ·))) = true := by kernel_rfl
theorem fact18 : ((Rows.hideLowerRow.wideKeys == (Tryz.f6.params.toList ++ Rows.hideLowerSpec.plain.varTypes Tryz.prog ++ Tryz.f6.resultTypes.toList).any (Tryz.prog.wideKeysFrom ·))) = true := by kernel_rfl
theorem fact19 : (Rows.hideLowerSpec.vars.all (Tryz.prog.varReadable ·)) = true := by kernel_rfl
theorem fact20 : (Tryz.f6.resultTypes.all (fun t => Tryz.prog.readableRec t && decide (t < Tryz.prog.types.size))) = true := by kernel_rfl
theorem fact21 : ((Rows.hideLowerRow.ifacesOut == Tryz.f6.resultTypes.toList.any (Tryz.prog.ifacesRec ·))) = true := by kernel_rfl
theorem fact22 : ((Rows.hideLowerRow.loopsOut == Tryz.f6.resultTypes.toList.any (Tryz.prog.loopsFrom ·))) = true := by kernel_rfl
theorem fact23 : ((Rows.hideLowerRow.plainKeys == Tryz.prog.plainKeys)) = true := by kernel_rfl
theorem fact24 : (Rows.hideLowerRow.shortTexts.isNone) = true := by kernel_rfl
theorem fact25 : (Tryz.prog.stopsHeard) = true := by kernel_rfl
theorem fact26 : (Tryz.prog.mayEnter) = true := by kernel_rfl
theorem fact27 : ((Rows.hideLowerRow.lifted == Tryz.prog.liftsFinal)) = true := by kernel_rfl
theorem fact28 : ((Tryz.prog.make == some Rows.hideLowerRow.make)) = true := by kernel_rfl
theorem fact29 : ((Rows.hideLowerRow.kinds == (if Rows.hideLowerRow.domain.isEmpty then [] else Tryz.f6.params.toList.map fun t => match Tryz.prog.underlying t with | some (.int k) => some k | _ => none))) = true := by kernel_rfl
theorem fact30 : ((Rows.hideLowerRow.pinned == Rows.hideLowerRow.pinnedBy)) = true := by kernel_rfl
theorem fact31 : ((Rows.hideLowerRow.veiled == (Tryz.f6.params.toList ++ Rows.hideLowerSpec.plain.varTypes Tryz.prog ++ Tryz.f6.resultTypes.toList).any (Tryz.prog.veiledRec ·))) = true := by kernel_rfl
theorem fact32 : (Rows.hideLowerRow.veiledFits Tryz.prog Tryz.f6.params.toList (Tryz.f6.params.toList ++ Rows.hideLowerSpec.plain.varTypes Tryz.prog ++ Tryz.f6.resultTypes.toList)) = true := by kernel_rfl
end Go.Proofs.YtjmdmpfekoinbaaGreat.hideLower
