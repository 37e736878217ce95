/- The closed facts of the row of the law PolarCoherencies. -/
import Derived.Test.YtcggbkocpahkdaaPoClo
namespace Go.Proofs.Ytcggbkocpahkdaa
open Go Go.Ex Go.RowKit Go.WideShapes Go.ChangeShapes Go.ChangeAt
theorem polarCoherenciesC0 : (Rows.polarCoherenciesRow.wf (OpenSpec.ofChange Rows.polarCoherenciesSpec)) = true := by kernel_rfl
theorem polarCoherenciesC3 : (Try.f10.params.all (Try.prog.readableRec ·)) = true := by kernel_rfl
theorem polarCoherenciesC4 : (namedTie Try.prog Rows.polarCoherenciesRow.named Rows.polarCoherenciesSpec.vars) = true := by kernel_rfl
theorem polarCoherenciesC5 : ((Rows.polarCoherenciesRow.stops == [])) = true := by kernel_rfl
theorem polarCoherenciesC7 : ((Rows.polarCoherenciesRow.knobs == [])) = true := by kernel_rfl
theorem polarCoherenciesC9 : ((Rows.polarCoherenciesRow.inPlace == Try.prog.inPlace 10)) = true := by kernel_rfl
theorem polarCoherenciesC10 : ((Rows.polarCoherenciesRow.unfollowed == Try.prog.unfollowed 10)) = true := by kernel_rfl
theorem polarCoherenciesC11 : ((Rows.polarCoherenciesRow.recurses == Try.prog.recurses 10)) = true := by kernel_rfl
theorem polarCoherenciesC12 : ((Rows.polarCoherenciesRow.named == Try.prog.varsNamed 10)) = true := by kernel_rfl
theorem polarCoherenciesC13 : ((Rows.polarCoherenciesRow.maps == (Try.f10.params.toList ++ Rows.polarCoherenciesSpec.plain.varTypes Try.prog).any (Try.prog.mapsRec ·))) = true := by kernel_rfl
theorem polarCoherenciesC14 : ((Rows.polarCoherenciesRow.ifaces == (Try.f10.params.toList ++ Rows.polarCoherenciesSpec.plain.varTypes Try.prog).any (Try.prog.ifacesRec ·))) = true := by kernel_rfl
theorem polarCoherenciesC15 : ((Rows.polarCoherenciesRow.mapsOut == Try.prog.mapsAmong Try.f10.resultTypes.toList)) = true := by kernel_rfl
theorem polarCoherenciesC16 : ((Rows.polarCoherenciesRow.loops == (Try.f10.params.toList ++ Rows.polarCoherenciesSpec.plain.varTypes Try.prog).any (Try.prog.loopsFrom ·))) = true := by kernel_rfl
theorem polarCoherenciesC17 : ((Rows.polarCoherenciesRow.wideKeys == (Try.f10.params.toList ++ Rows.polarCoherenciesSpec.plain.varTypes Try.prog ++ Try.f10.resultTypes.toList).any (Try.prog.wideKeysFrom ·))) = true := by kernel_rfl
theorem polarCoherenciesC18 : (Rows.polarCoherenciesSpec.vars.all (Try.prog.varReadable ·)) = true := by kernel_rfl
theorem polarCoherenciesC19 : (Try.f10.resultTypes.all (fun t => Try.prog.readableRec t && decide (t < Try.prog.types.size))) = true := by kernel_rfl
theorem polarCoherenciesC20 : ((Rows.polarCoherenciesRow.ifacesOut == Try.f10.resultTypes.toList.any (Try.prog.ifacesRec ·))) = true := by kernel_rfl
theorem polarCoherenciesC21 : ((Rows.polarCoherenciesRow.loopsOut == Try.f10.resultTypes.toList.any (Try.prog.loopsFrom ·))) = true := by kernel_rfl
theorem polarCoherenciesC22 : ((Rows.polarCoherenciesRow.plainKeys == Try.prog.plainKeys)) = true := by kernel_rfl
theorem polarCoherenciesC23 : (Rows.polarCoherenciesRow.shortTexts.isNone) = true := by kernel_rfl
theorem polarCoherenciesC26 : ((Rows.polarCoherenciesRow.lifted == Try.prog.liftsFinal)) = true := by kernel_rfl
theorem polarCoherenciesC27 : ((Try.prog.make == some Rows.polarCoherenciesRow.make)) = true := by kernel_rfl
theorem polarCoherenciesC28 : ((Rows.polarCoherenciesRow.kinds == (if Rows.polarCoherenciesRow.domain.isEmpty then [] else Try.f10.params.toList.map fun t => match Try.prog.underlying t with | some (.int k) => some k | _ => none))) = true := by kernel_rfl
theorem polarCoherenciesC29 : ((Rows.polarCoherenciesRow.pinned == Rows.polarCoherenciesRow.pinnedBy)) = true := by kernel_rfl
theorem polarCoherenciesC30 : ((Rows.polarCoherenciesRow.veiled == (Try.f10.params.toList ++ Rows.polarCoherenciesSpec.plain.varTypes Try.prog ++ Try.f10.resultTypes.toList).any (Try.prog.veiledRec ·))) = true := by kernel_rfl
theorem polarCoherenciesC31 : (Rows.polarCoherenciesRow.veiledFits Try.prog Try.f10.params.toList (Try.f10.params.toList ++ Rows.polarCoherenciesSpec.plain.varTypes Try.prog ++ Try.f10.resultTypes.toList)) = true := by kernel_rfl
set_option maxRecDepth 100000 in
theorem polarCoherenciesClosed : joinedFacts Try.prog 10 Try.f10 Rows.polarCoherenciesSpec Rows.polarCoherenciesRow = true :=
  joined_mk polarCoherenciesC0 clo1 clo2 polarCoherenciesC3 polarCoherenciesC4 polarCoherenciesC5 clo6 polarCoherenciesC7 clo8 polarCoherenciesC9 polarCoherenciesC10 polarCoherenciesC11 polarCoherenciesC12 polarCoherenciesC13 polarCoherenciesC14 polarCoherenciesC15 polarCoherenciesC16 polarCoherenciesC17 polarCoherenciesC18 polarCoherenciesC19 polarCoherenciesC20 polarCoherenciesC21 polarCoherenciesC22 polarCoherenciesC23 clo24 clo25 polarCoherenciesC26 polarCoherenciesC27 polarCoherenciesC28 polarCoherenciesC29 polarCoherenciesC30 polarCoherenciesC31
end Go.Proofs.Ytcggbkocpahkdaa
