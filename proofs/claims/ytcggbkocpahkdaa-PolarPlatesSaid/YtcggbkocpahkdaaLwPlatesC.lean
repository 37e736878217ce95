/- The closed facts of the row of the law PolarPlates. -/
import Derived.Test.YtcggbkocpahkdaaPoClo
namespace Go.Proofs.Ytcggbkocpahkdaa
open Go Go.Ex Go.RowKit Go.WideShapes Go.ChangeShapes Go.ChangeAt
theorem polarPlatesC0 : (Rows.polarPlatesRow.wf (OpenSpec.ofChange Rows.polarPlatesSpec)) = true := by kernel_rfl
theorem polarPlatesC3 : (Try.f6.params.all (Try.prog.readableRec ·)) = true := by kernel_rfl
theorem polarPlatesC4 : (namedTie Try.prog Rows.polarPlatesRow.named Rows.polarPlatesSpec.vars) = true := by kernel_rfl
theorem polarPlatesC5 : ((Rows.polarPlatesRow.stops == [])) = true := by kernel_rfl
theorem polarPlatesC7 : ((Rows.polarPlatesRow.knobs == [])) = true := by kernel_rfl
theorem polarPlatesC9 : ((Rows.polarPlatesRow.inPlace == Try.prog.inPlace 6)) = true := by kernel_rfl
theorem polarPlatesC10 : ((Rows.polarPlatesRow.unfollowed == Try.prog.unfollowed 6)) = true := by kernel_rfl
theorem polarPlatesC11 : ((Rows.polarPlatesRow.recurses == Try.prog.recurses 6)) = true := by kernel_rfl
theorem polarPlatesC12 : ((Rows.polarPlatesRow.named == Try.prog.varsNamed 6)) = true := by kernel_rfl
theorem polarPlatesC13 : ((Rows.polarPlatesRow.maps == (Try.f6.params.toList ++ Rows.polarPlatesSpec.plain.varTypes Try.prog).any (Try.prog.mapsRec ·))) = true := by kernel_rfl
theorem polarPlatesC14 : ((Rows.polarPlatesRow.ifaces == (Try.f6.params.toList ++ Rows.polarPlatesSpec.plain.varTypes Try.prog).any (Try.prog.ifacesRec ·))) = true := by kernel_rfl
theorem polarPlatesC15 : ((Rows.polarPlatesRow.mapsOut == Try.prog.mapsAmong Try.f6.resultTypes.toList)) = true := by kernel_rfl
theorem polarPlatesC16 : ((Rows.polarPlatesRow.loops == (Try.f6.params.toList ++ Rows.polarPlatesSpec.plain.varTypes Try.prog).any (Try.prog.loopsFrom ·))) = true := by kernel_rfl
theorem polarPlatesC17 : ((Rows.polarPlatesRow.wideKeys == (Try.f6.params.toList ++ Rows.polarPlatesSpec.plain.varTypes Try.prog ++ Try.f6.resultTypes.toList).any (Try.prog.wideKeysFrom ·))) = true := by kernel_rfl
theorem polarPlatesC18 : (Rows.polarPlatesSpec.vars.all (Try.prog.varReadable ·)) = true := by kernel_rfl
theorem polarPlatesC19 : (Try.f6.resultTypes.all (fun t => Try.prog.readableRec t && decide (t < Try.prog.types.size))) = true := by kernel_rfl
theorem polarPlatesC20 : ((Rows.polarPlatesRow.ifacesOut == Try.f6.resultTypes.toList.any (Try.prog.ifacesRec ·))) = true := by kernel_rfl
theorem polarPlatesC21 : ((Rows.polarPlatesRow.loopsOut == Try.f6.resultTypes.toList.any (Try.prog.loopsFrom ·))) = true := by kernel_rfl
theorem polarPlatesC22 : ((Rows.polarPlatesRow.plainKeys == Try.prog.plainKeys)) = true := by kernel_rfl
theorem polarPlatesC23 : (Rows.polarPlatesRow.shortTexts.isNone) = true := by kernel_rfl
theorem polarPlatesC26 : ((Rows.polarPlatesRow.lifted == Try.prog.liftsFinal)) = true := by kernel_rfl
theorem polarPlatesC27 : ((Try.prog.make == some Rows.polarPlatesRow.make)) = true := by kernel_rfl
theorem polarPlatesC28 : ((Rows.polarPlatesRow.kinds == (if Rows.polarPlatesRow.domain.isEmpty then [] else Try.f6.params.toList.map fun t => match Try.prog.underlying t with | some (.int k) => some k | _ => none))) = true := by kernel_rfl
theorem polarPlatesC29 : ((Rows.polarPlatesRow.pinned == Rows.polarPlatesRow.pinnedBy)) = true := by kernel_rfl
theorem polarPlatesC30 : ((Rows.polarPlatesRow.veiled == (Try.f6.params.toList ++ Rows.polarPlatesSpec.plain.varTypes Try.prog ++ Try.f6.resultTypes.toList).any (Try.prog.veiledRec ·))) = true := by kernel_rfl
theorem polarPlatesC31 : (Rows.polarPlatesRow.veiledFits Try.prog Try.f6.params.toList (Try.f6.params.toList ++ Rows.polarPlatesSpec.plain.varTypes Try.prog ++ Try.f6.resultTypes.toList)) = true := by kernel_rfl
set_option maxRecDepth 100000 in
theorem polarPlatesClosed : joinedFacts Try.prog 6 Try.f6 Rows.polarPlatesSpec Rows.polarPlatesRow = true :=
  joined_mk polarPlatesC0 clo1 clo2 polarPlatesC3 polarPlatesC4 polarPlatesC5 clo6 polarPlatesC7 clo8 polarPlatesC9 polarPlatesC10 polarPlatesC11 polarPlatesC12 polarPlatesC13 polarPlatesC14 polarPlatesC15 polarPlatesC16 polarPlatesC17 polarPlatesC18 polarPlatesC19 polarPlatesC20 polarPlatesC21 polarPlatesC22 polarPlatesC23 clo24 clo25 polarPlatesC26 polarPlatesC27 polarPlatesC28 polarPlatesC29 polarPlatesC30 polarPlatesC31
end Go.Proofs.Ytcggbkocpahkdaa
