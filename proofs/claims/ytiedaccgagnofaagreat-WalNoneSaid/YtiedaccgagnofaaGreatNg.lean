/- The closed facts of the row walNone, each by itself: in one they take too much memory. -/
import Derived.Test.YtiedaccgagnofaaGreatRows
import Derived.JoinedOf
import Derived.KernelRfl
namespace Go.Proofs.YtiedaccgagnofaaGreat
set_option maxRecDepth 1000000
theorem walNone_fact0 : (Rows.walNoneRow.wf (OpenSpec.ofChange Rows.walNoneSpec)) = true := by kernel_rfl
theorem walNone_fact1 : (laidOutB Tryz.prog) = true := by kernel_rfl
theorem walNone_fact2 : (mapsRowed Tryz.prog) = true := by kernel_rfl
theorem walNone_fact3 : (Tryz.f4.params.all (Tryz.prog.readableRec ·)) = true := by kernel_rfl
theorem walNone_fact4 : (namedTie Tryz.prog Rows.walNoneRow.named Rows.walNoneSpec.vars) = true := by kernel_rfl
theorem walNone_fact5 : ((Rows.walNoneRow.stops == [])) = true := by kernel_rfl
theorem walNone_fact6 : ((Tryz.prog.stops == [])) = true := by kernel_rfl
theorem walNone_fact7 : ((Rows.walNoneRow.knobs == [])) = true := by kernel_rfl
theorem walNone_fact8 : ((Tryz.prog.stopKnobs == [])) = true := by kernel_rfl
theorem walNone_fact9 : ((Rows.walNoneRow.inPlace == Tryz.prog.inPlace 4)) = true := by kernel_rfl
theorem walNone_fact10 : ((Rows.walNoneRow.unfollowed == Tryz.prog.unfollowed 4)) = true := by kernel_rfl
theorem walNone_fact11 : ((Rows.walNoneRow.recurses == Tryz.prog.recurses 4)) = true := by kernel_rfl
theorem walNone_fact12 : ((Rows.walNoneRow.named == Tryz.prog.varsNamed 4)) = true := by kernel_rfl
theorem walNone_fact13 : ((Rows.walNoneRow.maps == (Tryz.f4.params.toList ++ Rows.walNoneSpec.plain.varTypes Tryz.prog).any (Tryz.prog.mapsRec ·))) = true := by kernel_rfl
theorem walNone_fact14 : ((Rows.walNoneRow.ifaces == (Tryz.f4.params.toList ++ Rows.walNoneSpec.plain.varTypes Tryz.prog).any (Tryz.prog.ifacesRec ·))) = true := by kernel_rfl
theorem walNone_fact15 : ((Rows.walNoneRow.mapsOut == Tryz.prog.mapsAmong Tryz.f4.resultTypes.toList)) = true := by kernel_rfl
theorem walNone_fact16 : ((Rows.walNoneRow.loops == (Tryz.f4.params.toList ++ Rows.walNoneSpec.plain.varTypes Tryz.prog).any (Tryz.prog.loopsFrom ·))) = true := by kernel_rfl
theorem walNone_fact17 : ((Rows.walNoneRow.wideKeys == (Tryz.f4.params.toList ++ Rows.walNoneSpec.plain.varTypes Tryz.prog ++ Tryz.f4.resultTypes.toList).any (Tryz.prog.wideKeysFrom ·))) = true := by kernel_rfl
theorem walNone_fact18 : (Rows.walNoneSpec.vars.all (Tryz.prog.varReadable ·)) = true := by kernel_rfl
theorem walNone_fact19 : (Tryz.f4.resultTypes.all (fun t => Tryz.prog.readableRec t && decide (t < Tryz.prog.types.size))) = true := by kernel_rfl
theorem walNone_fact20 : ((Rows.walNoneRow.ifacesOut == Tryz.f4.resultTypes.toList.any (Tryz.prog.ifacesRec ·))) = true := by kernel_rfl
theorem walNone_fact21 : ((Rows.walNoneRow.loopsOut == Tryz.f4.resultTypes.toList.any (Tryz.prog.loopsFrom ·))) = true := by kernel_rfl
theorem walNone_fact22 : ((Rows.walNoneRow.plainKeys == Tryz.prog.plainKeys)) = true := by kernel_rfl
theorem walNone_fact23 : (Rows.walNoneRow.shortTexts.isNone) = true := by kernel_rfl
theorem walNone_fact24 : (Tryz.prog.stopsHeard) = true := by kernel_rfl
theorem walNone_fact25 : (Tryz.prog.mayEnter) = true := by kernel_rfl
theorem walNone_fact26 : ((Rows.walNoneRow.lifted == Tryz.prog.liftsFinal)) = true := by kernel_rfl
theorem walNone_fact27 : ((Tryz.prog.make == some Rows.walNoneRow.make)) = true := by kernel_rfl
theorem walNone_fact28 : ((Rows.walNoneRow.kinds == [])) = true := by kernel_rfl
theorem walNone_fact29 : ((Rows.walNoneRow.pinned == Rows.walNoneRow.pinnedBy)) = true := by kernel_rfl
theorem walNone_fact30 : ((Rows.walNoneRow.veiled == (Tryz.f4.params.toList ++ Rows.walNoneSpec.plain.varTypes Tryz.prog ++ Tryz.f4.resultTypes.toList).any (Tryz.prog.veiledRec ·))) = true := by kernel_rfl
theorem walNone_fact31 : (Rows.walNoneRow.veiledFits Tryz.prog Tryz.f4.params.toList (Tryz.f4.params.toList ++ Rows.walNoneSpec.plain.varTypes Tryz.prog ++ Tryz.f4.resultTypes.toList)) = true := by kernel_rfl
theorem walNone_func : Tryz.pinned.checked.prog.funcNamed Rows.walNoneRow.func = some 4 := by kernel_rfl
end Go.Proofs.YtiedaccgagnofaaGreat
