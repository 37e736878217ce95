/- The closed facts of the row of the law PolarStokes. -/
import Derived.Test.YtcggbkocpahkdaaPoClo
namespace Go.Proofs.Ytcggbkocpahkdaa
open Go Go.Ex Go.RowKit Go.WideShapes Go.ChangeShapes Go.ChangeAt
theorem polarStokesC0 : (Rows.polarStokesRow.wf (OpenSpec.ofChange Rows.polarStokesSpec)) = true := by kernel_rfl
theorem polarStokesC3 : (Try.f9.params.all (Try.prog.readableRec ·)) = true := by kernel_rfl
theorem polarStokesC4 : (namedTie Try.prog Rows.polarStokesRow.named Rows.polarStokesSpec.vars) = true := by kernel_rfl
theorem polarStokesC5 : ((Rows.polarStokesRow.stops == [])) = true := by kernel_rfl
theorem polarStokesC7 : ((Rows.polarStokesRow.knobs == [])) = true := by kernel_rfl
theorem polarStokesC9 : ((Rows.polarStokesRow.inPlace == Try.prog.inPlace 9)) = true := by kernel_rfl
theorem polarStokesC10 : ((Rows.polarStokesRow.unfollowed == Try.prog.unfollowed 9)) = true := by kernel_rfl
theorem polarStokesC11 : ((Rows.polarStokesRow.recurses == Try.prog.recurses 9)) = true := by kernel_rfl
theorem polarStokesC12 : ((Rows.polarStokesRow.named == Try.prog.varsNamed 9)) = true := by kernel_rfl
theorem polarStokesC13 : ((Rows.polarStokesRow.maps == (Try.f9.params.toList ++ Rows.polarStokesSpec.plain.varTypes Try.prog).any (Try.prog.mapsRec ·))) = true := by kernel_rfl
theorem polarStokesC14 : ((Rows.polarStokesRow.ifaces == (Try.f9.params.toList ++ Rows.polarStokesSpec.plain.varTypes Try.prog).any (Try.prog.ifacesRec ·))) = true := by kernel_rfl
theorem polarStokesC15 : ((Rows.polarStokesRow.mapsOut == Try.prog.mapsAmong Try.f9.resultTypes.toList)) = true := by kernel_rfl
theorem polarStokesC16 : ((Rows.polarStokesRow.loops == (Try.f9.params.toList ++ Rows.polarStokesSpec.plain.varTypes Try.prog).any (Try.prog.loopsFrom ·))) = true := by kernel_rfl
theorem polarStokesC17 : ((Rows.polarStokesRow.wideKeys == (Try.f9.params.toList ++ Rows.polarStokesSpec.plain.varTypes Try.prog ++ Try.f9.resultTypes.toList).any (Try.prog.wideKeysFrom ·))) = true := by kernel_rfl
theorem polarStokesC18 : (Rows.polarStokesSpec.vars.all (Try.prog.varReadable ·)) = true := by kernel_rfl
theorem polarStokesC19 : (Try.f9.resultTypes.all (fun t => Try.prog.readableRec t && decide (t < Try.prog.types.size))) = true := by kernel_rfl
theorem polarStokesC20 : ((Rows.polarStokesRow.ifacesOut == Try.f9.resultTypes.toList.any (Try.prog.ifacesRec ·))) = true := by kernel_rfl
theorem polarStokesC21 : ((Rows.polarStokesRow.loopsOut == Try.f9.resultTypes.toList.any (Try.prog.loopsFrom ·))) = true := by kernel_rfl
theorem polarStokesC22 : ((Rows.polarStokesRow.plainKeys == Try.prog.plainKeys)) = true := by kernel_rfl
theorem polarStokesC23 : (Rows.polarStokesRow.shortTexts.isNone) = true := by kernel_rfl
theorem polarStokesC26 : ((Rows.polarStokesRow.lifted == Try.prog.liftsFinal)) = true := by kernel_rfl
theorem polarStokesC27 : ((Try.prog.make == some Rows.polarStokesRow.make)) = true := by kernel_rfl
theorem polarStokesC28 : ((Rows.polarStokesRow.kinds == (if Rows.polarStokesRow.domain.isEmpty then [] else Try.f9.params.toList.map fun t => match Try.prog.underlying t with | some (.int k) => some k | _ => none))) = true := by kernel_rfl
theorem polarStokesC29 : ((Rows.polarStokesRow.pinned == Rows.polarStokesRow.pinnedBy)) = true := by kernel_rfl
theorem polarStokesC30 : ((Rows.polarStokesRow.veiled == (Try.f9.params.toList ++ Rows.polarStokesSpec.plain.varTypes Try.prog ++ Try.f9.resultTypes.toList).any (Try.prog.veiledRec ·))) = true := by kernel_rfl
theorem polarStokesC31 : (Rows.polarStokesRow.veiledFits Try.prog Try.f9.params.toList (Try.f9.params.toList ++ Rows.polarStokesSpec.plain.varTypes Try.prog ++ Try.f9.resultTypes.toList)) = true := by kernel_rfl
set_option maxRecDepth 100000 in
theorem polarStokesClosed : joinedFacts Try.prog 9 Try.f9 Rows.polarStokesSpec Rows.polarStokesRow = true :=
  joined_mk polarStokesC0 clo1 clo2 polarStokesC3 polarStokesC4 polarStokesC5 clo6 polarStokesC7 clo8 polarStokesC9 polarStokesC10 polarStokesC11 polarStokesC12 polarStokesC13 polarStokesC14 polarStokesC15 polarStokesC16 polarStokesC17 polarStokesC18 polarStokesC19 polarStokesC20 polarStokesC21 polarStokesC22 polarStokesC23 clo24 clo25 polarStokesC26 polarStokesC27 polarStokesC28 polarStokesC29 polarStokesC30 polarStokesC31
end Go.Proofs.Ytcggbkocpahkdaa
