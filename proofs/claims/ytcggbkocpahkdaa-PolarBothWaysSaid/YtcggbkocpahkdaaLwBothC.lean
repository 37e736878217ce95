/- The closed facts of the row of the law PolarBothWays. -/
import Derived.Test.YtcggbkocpahkdaaPoClo
namespace Go.Proofs.Ytcggbkocpahkdaa
open Go Go.Ex Go.RowKit Go.WideShapes Go.ChangeShapes Go.ChangeAt
theorem polarBothWaysC0 : (Rows.polarBothWaysRow.wf (OpenSpec.ofChange Rows.polarBothWaysSpec)) = true := by kernel_rfl
theorem polarBothWaysC3 : (Try.f16.params.all (Try.prog.readableRec ·)) = true := by kernel_rfl
theorem polarBothWaysC4 : (namedTie Try.prog Rows.polarBothWaysRow.named Rows.polarBothWaysSpec.vars) = true := by kernel_rfl
theorem polarBothWaysC5 : ((Rows.polarBothWaysRow.stops == [])) = true := by kernel_rfl
theorem polarBothWaysC7 : ((Rows.polarBothWaysRow.knobs == [])) = true := by kernel_rfl
theorem polarBothWaysC9 : ((Rows.polarBothWaysRow.inPlace == Try.prog.inPlace 16)) = true := by kernel_rfl
theorem polarBothWaysC10 : ((Rows.polarBothWaysRow.unfollowed == Try.prog.unfollowed 16)) = true := by kernel_rfl
theorem polarBothWaysC11 : ((Rows.polarBothWaysRow.recurses == Try.prog.recurses 16)) = true := by kernel_rfl
theorem polarBothWaysC12 : ((Rows.polarBothWaysRow.named == Try.prog.varsNamed 16)) = true := by kernel_rfl
theorem polarBothWaysC13 : ((Rows.polarBothWaysRow.maps == (Try.f16.params.toList ++ Rows.polarBothWaysSpec.plain.varTypes Try.prog).any (Try.prog.mapsRec ·))) = true := by kernel_rfl
theorem polarBothWaysC14 : ((Rows.polarBothWaysRow.ifaces == (Try.f16.params.toList ++ Rows.polarBothWaysSpec.plain.varTypes Try.prog).any (Try.prog.ifacesRec ·))) = true := by kernel_rfl
theorem polarBothWaysC15 : ((Rows.polarBothWaysRow.mapsOut == Try.prog.mapsAmong Try.f16.resultTypes.toList)) = true := by kernel_rfl
theorem polarBothWaysC16 : ((Rows.polarBothWaysRow.loops == (Try.f16.params.toList ++ Rows.polarBothWaysSpec.plain.varTypes Try.prog).any (Try.prog.loopsFrom ·))) = true := by kernel_rfl
theorem polarBothWaysC17 : ((Rows.polarBothWaysRow.wideKeys == (Try.f16.params.toList ++ Rows.polarBothWaysSpec.plain.varTypes Try.prog ++ Try.f16.resultTypes.toList).any (Try.prog.wideKeysFrom ·))) = true := by kernel_rfl
theorem polarBothWaysC18 : (Rows.polarBothWaysSpec.vars.all (Try.prog.varReadable ·)) = true := by kernel_rfl
theorem polarBothWaysC19 : (Try.f16.resultTypes.all (fun t => Try.prog.readableRec t && decide (t < Try.prog.types.size))) = true := by kernel_rfl
theorem polarBothWaysC20 : ((Rows.polarBothWaysRow.ifacesOut == Try.f16.resultTypes.toList.any (Try.prog.ifacesRec ·))) = true := by kernel_rfl
theorem polarBothWaysC21 : ((Rows.polarBothWaysRow.loopsOut == Try.f16.resultTypes.toList.any (Try.prog.loopsFrom ·))) = true := by kernel_rfl
theorem polarBothWaysC22 : ((Rows.polarBothWaysRow.plainKeys == Try.prog.plainKeys)) = true := by kernel_rfl
theorem polarBothWaysC23 : (Rows.polarBothWaysRow.shortTexts.isNone) = true := by kernel_rfl
theorem polarBothWaysC26 : ((Rows.polarBothWaysRow.lifted == Try.prog.liftsFinal)) = true := by kernel_rfl
theorem polarBothWaysC27 : ((Try.prog.make == some Rows.polarBothWaysRow.make)) = true := by kernel_rfl
theorem polarBothWaysC28 : ((Rows.polarBothWaysRow.kinds == (if Rows.polarBothWaysRow.domain.isEmpty then [] else Try.f16.params.toList.map fun t => match Try.prog.underlying t with | some (.int k) => some k | _ => none))) = true := by kernel_rfl
theorem polarBothWaysC29 : ((Rows.polarBothWaysRow.pinned == Rows.polarBothWaysRow.pinnedBy)) = true := by kernel_rfl
theorem polarBothWaysC30 : ((Rows.polarBothWaysRow.veiled == (Try.f16.params.toList ++ Rows.polarBothWaysSpec.plain.varTypes Try.prog ++ Try.f16.resultTypes.toList).any (Try.prog.veiledRec ·))) = true := by kernel_rfl
theorem polarBothWaysC31 : (Rows.polarBothWaysRow.veiledFits Try.prog Try.f16.params.toList (Try.f16.params.toList ++ Rows.polarBothWaysSpec.plain.varTypes Try.prog ++ Try.f16.resultTypes.toList)) = true := by kernel_rfl
set_option maxRecDepth 100000 in
theorem polarBothWaysClosed : joinedFacts Try.prog 16 Try.f16 Rows.polarBothWaysSpec Rows.polarBothWaysRow = true :=
  joined_mk polarBothWaysC0 clo1 clo2 polarBothWaysC3 polarBothWaysC4 polarBothWaysC5 clo6 polarBothWaysC7 clo8 polarBothWaysC9 polarBothWaysC10 polarBothWaysC11 polarBothWaysC12 polarBothWaysC13 polarBothWaysC14 polarBothWaysC15 polarBothWaysC16 polarBothWaysC17 polarBothWaysC18 polarBothWaysC19 polarBothWaysC20 polarBothWaysC21 polarBothWaysC22 polarBothWaysC23 clo24 clo25 polarBothWaysC26 polarBothWaysC27 polarBothWaysC28 polarBothWaysC29 polarBothWaysC30 polarBothWaysC31
end Go.Proofs.Ytcggbkocpahkdaa
