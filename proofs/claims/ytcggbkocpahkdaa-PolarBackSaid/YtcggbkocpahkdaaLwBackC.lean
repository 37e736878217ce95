/- The closed facts of the row of the law PolarBack. -/
import Derived.Test.YtcggbkocpahkdaaPoClo
namespace Go.Proofs.Ytcggbkocpahkdaa
open Go Go.Ex Go.RowKit Go.WideShapes Go.ChangeShapes Go.ChangeAt
theorem polarBackC0 : (Rows.polarBackRow.wf (OpenSpec.ofChange Rows.polarBackSpec)) = true := by kernel_rfl
theorem polarBackC3 : (Try.f8.params.all (Try.prog.readableRec ·)) = true := by kernel_rfl
theorem polarBackC4 : (namedTie Try.prog Rows.polarBackRow.named Rows.polarBackSpec.vars) = true := by kernel_rfl
theorem polarBackC5 : ((Rows.polarBackRow.stops == [])) = true := by kernel_rfl
theorem polarBackC7 : ((Rows.polarBackRow.knobs == [])) = true := by kernel_rfl
theorem polarBackC9 : ((Rows.polarBackRow.inPlace == Try.prog.inPlace 8)) = true := by kernel_rfl
theorem polarBackC10 : ((Rows.polarBackRow.unfollowed == Try.prog.unfollowed 8)) = true := by kernel_rfl
theorem polarBackC11 : ((Rows.polarBackRow.recurses == Try.prog.recurses 8)) = true := by kernel_rfl
theorem polarBackC12 : ((Rows.polarBackRow.named == Try.prog.varsNamed 8)) = true := by kernel_rfl
theorem polarBackC13 : ((Rows.polarBackRow.maps == (Try.f8.params.toList ++ Rows.polarBackSpec.plain.varTypes Try.prog).any (Try.prog.mapsRec ·))) = true := by kernel_rfl
theorem polarBackC14 : ((Rows.polarBackRow.ifaces == (Try.f8.params.toList ++ Rows.polarBackSpec.plain.varTypes Try.prog).any (Try.prog.ifacesRec ·))) = true := by kernel_rfl
theorem polarBackC15 : ((Rows.polarBackRow.mapsOut == Try.prog.mapsAmong Try.f8.resultTypes.toList)) = true := by kernel_rfl
theorem polarBackC16 : ((Rows.polarBackRow.loops == (Try.f8.params.toList ++ Rows.polarBackSpec.plain.varTypes Try.prog).any (Try.prog.loopsFrom ·))) = true := by kernel_rfl
theorem polarBackC17 : ((Rows.polarBackRow.wideKeys == (Try.f8.params.toList ++ Rows.polarBackSpec.plain.varTypes Try.prog ++ Try.f8.resultTypes.toList).any (Try.prog.wideKeysFrom ·))) = true := by kernel_rfl
theorem polarBackC18 : (Rows.polarBackSpec.vars.all (Try.prog.varReadable ·)) = true := by kernel_rfl
theorem polarBackC19 : (Try.f8.resultTypes.all (fun t => Try.prog.readableRec t && decide (t < Try.prog.types.size))) = true := by kernel_rfl
theorem polarBackC20 : ((Rows.polarBackRow.ifacesOut == Try.f8.resultTypes.toList.any (Try.prog.ifacesRec ·))) = true := by kernel_rfl
theorem polarBackC21 : ((Rows.polarBackRow.loopsOut == Try.f8.resultTypes.toList.any (Try.prog.loopsFrom ·))) = true := by kernel_rfl
theorem polarBackC22 : ((Rows.polarBackRow.plainKeys == Try.prog.plainKeys)) = true := by kernel_rfl
theorem polarBackC23 : (Rows.polarBackRow.shortTexts.isNone) = true := by kernel_rfl
theorem polarBackC26 : ((Rows.polarBackRow.lifted == Try.prog.liftsFinal)) = true := by kernel_rfl
theorem polarBackC27 : ((Try.prog.make == some Rows.polarBackRow.make)) = true := by kernel_rfl
theorem polarBackC28 : ((Rows.polarBackRow.kinds == (if Rows.polarBackRow.domain.isEmpty then [] else Try.f8.params.toList.map fun t => match Try.prog.underlying t with | some (.int k) => some k | _ => none))) = true := by kernel_rfl
theorem polarBackC29 : ((Rows.polarBackRow.pinned == Rows.polarBackRow.pinnedBy)) = true := by kernel_rfl
theorem polarBackC30 : ((Rows.polarBackRow.veiled == (Try.f8.params.toList ++ Rows.polarBackSpec.plain.varTypes Try.prog ++ Try.f8.resultTypes.toList).any (Try.prog.veiledRec ·))) = true := by kernel_rfl
theorem polarBackC31 : (Rows.polarBackRow.veiledFits Try.prog Try.f8.params.toList (Try.f8.params.toList ++ Rows.polarBackSpec.plain.varTypes Try.prog ++ Try.f8.resultTypes.toList)) = true := by kernel_rfl
set_option maxRecDepth 100000 in
theorem polarBackClosed : joinedFacts Try.prog 8 Try.f8 Rows.polarBackSpec Rows.polarBackRow = true :=
  joined_mk polarBackC0 clo1 clo2 polarBackC3 polarBackC4 polarBackC5 clo6 polarBackC7 clo8 polarBackC9 polarBackC10 polarBackC11 polarBackC12 polarBackC13 polarBackC14 polarBackC15 polarBackC16 polarBackC17 polarBackC18 polarBackC19 polarBackC20 polarBackC21 polarBackC22 polarBackC23 clo24 clo25 polarBackC26 polarBackC27 polarBackC28 polarBackC29 polarBackC30 polarBackC31
end Go.Proofs.Ytcggbkocpahkdaa
