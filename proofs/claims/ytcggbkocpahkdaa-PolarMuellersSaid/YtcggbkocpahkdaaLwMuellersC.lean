/- The closed facts of the row of the law PolarMuellers. -/
import Derived.Test.YtcggbkocpahkdaaPoClo
namespace Go.Proofs.Ytcggbkocpahkdaa
open Go Go.Ex Go.RowKit Go.WideShapes Go.ChangeShapes Go.ChangeAt
theorem polarMuellersC0 : (Rows.polarMuellersRow.wf (OpenSpec.ofChange Rows.polarMuellersSpec)) = true := by kernel_rfl
theorem polarMuellersC3 : (Try.f13.params.all (Try.prog.readableRec ·)) = true := by kernel_rfl
theorem polarMuellersC4 : (namedTie Try.prog Rows.polarMuellersRow.named Rows.polarMuellersSpec.vars) = true := by kernel_rfl
theorem polarMuellersC5 : ((Rows.polarMuellersRow.stops == [])) = true := by kernel_rfl
theorem polarMuellersC7 : ((Rows.polarMuellersRow.knobs == [])) = true := by kernel_rfl
theorem polarMuellersC9 : ((Rows.polarMuellersRow.inPlace == Try.prog.inPlace 13)) = true := by kernel_rfl
theorem polarMuellersC10 : ((Rows.polarMuellersRow.unfollowed == Try.prog.unfollowed 13)) = true := by kernel_rfl
theorem polarMuellersC11 : ((Rows.polarMuellersRow.recurses == Try.prog.recurses 13)) = true := by kernel_rfl
theorem polarMuellersC12 : ((Rows.polarMuellersRow.named == Try.prog.varsNamed 13)) = true := by kernel_rfl
theorem polarMuellersC13 : ((Rows.polarMuellersRow.maps == (Try.f13.params.toList ++ Rows.polarMuellersSpec.plain.varTypes Try.prog).any (Try.prog.mapsRec ·))) = true := by kernel_rfl
theorem polarMuellersC14 : ((Rows.polarMuellersRow.ifaces == (Try.f13.params.toList ++ Rows.polarMuellersSpec.plain.varTypes Try.prog).any (Try.prog.ifacesRec ·))) = true := by kernel_rfl
theorem polarMuellersC15 : ((Rows.polarMuellersRow.mapsOut == Try.prog.mapsAmong Try.f13.resultTypes.toList)) = true := by kernel_rfl
theorem polarMuellersC16 : ((Rows.polarMuellersRow.loops == (Try.f13.params.toList ++ Rows.polarMuellersSpec.plain.varTypes Try.prog).any (Try.prog.loopsFrom ·))) = true := by kernel_rfl
theorem polarMuellersC17 : ((Rows.polarMuellersRow.wideKeys == (Try.f13.params.toList ++ Rows.polarMuellersSpec.plain.varTypes Try.prog ++ Try.f13.resultTypes.toList).any (Try.prog.wideKeysFrom ·))) = true := by kernel_rfl
theorem polarMuellersC18 : (Rows.polarMuellersSpec.vars.all (Try.prog.varReadable ·)) = true := by kernel_rfl
theorem polarMuellersC19 : (Try.f13.resultTypes.all (fun t => Try.prog.readableRec t && decide (t < Try.prog.types.size))) = true := by kernel_rfl
theorem polarMuellersC20 : ((Rows.polarMuellersRow.ifacesOut == Try.f13.resultTypes.toList.any (Try.prog.ifacesRec ·))) = true := by kernel_rfl
theorem polarMuellersC21 : ((Rows.polarMuellersRow.loopsOut == Try.f13.resultTypes.toList.any (Try.prog.loopsFrom ·))) = true := by kernel_rfl
theorem polarMuellersC22 : ((Rows.polarMuellersRow.plainKeys == Try.prog.plainKeys)) = true := by kernel_rfl
theorem polarMuellersC23 : (Rows.polarMuellersRow.shortTexts.isNone) = true := by kernel_rfl
theorem polarMuellersC26 : ((Rows.polarMuellersRow.lifted == Try.prog.liftsFinal)) = true := by kernel_rfl
theorem polarMuellersC27 : ((Try.prog.make == some Rows.polarMuellersRow.make)) = true := by kernel_rfl
theorem polarMuellersC28 : ((Rows.polarMuellersRow.kinds == (if Rows.polarMuellersRow.domain.isEmpty then [] else Try.f13.params.toList.map fun t => match Try.prog.underlying t with | some (.int k) => some k | _ => none))) = true := by kernel_rfl
theorem polarMuellersC29 : ((Rows.polarMuellersRow.pinned == Rows.polarMuellersRow.pinnedBy)) = true := by kernel_rfl
theorem polarMuellersC30 : ((Rows.polarMuellersRow.veiled == (Try.f13.params.toList ++ Rows.polarMuellersSpec.plain.varTypes Try.prog ++ Try.f13.resultTypes.toList).any (Try.prog.veiledRec ·))) = true := by kernel_rfl
theorem polarMuellersC31 : (Rows.polarMuellersRow.veiledFits Try.prog Try.f13.params.toList (Try.f13.params.toList ++ Rows.polarMuellersSpec.plain.varTypes Try.prog ++ Try.f13.resultTypes.toList)) = true := by kernel_rfl
set_option maxRecDepth 100000 in
theorem polarMuellersClosed : joinedFacts Try.prog 13 Try.f13 Rows.polarMuellersSpec Rows.polarMuellersRow = true :=
  joined_mk polarMuellersC0 clo1 clo2 polarMuellersC3 polarMuellersC4 polarMuellersC5 clo6 polarMuellersC7 clo8 polarMuellersC9 polarMuellersC10 polarMuellersC11 polarMuellersC12 polarMuellersC13 polarMuellersC14 polarMuellersC15 polarMuellersC16 polarMuellersC17 polarMuellersC18 polarMuellersC19 polarMuellersC20 polarMuellersC21 polarMuellersC22 polarMuellersC23 clo24 clo25 polarMuellersC26 polarMuellersC27 polarMuellersC28 polarMuellersC29 polarMuellersC30 polarMuellersC31
end Go.Proofs.Ytcggbkocpahkdaa
