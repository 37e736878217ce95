/- The closed facts of the row of the law PolarPassive. -/
import Derived.Test.YtcggbkocpahkdaaPoClo
namespace Go.Proofs.Ytcggbkocpahkdaa
open Go Go.Ex Go.RowKit Go.WideShapes Go.ChangeShapes Go.ChangeAt
theorem polarPassiveC0 : (Rows.polarPassiveRow.wf (OpenSpec.ofChange Rows.polarPassiveSpec)) = true := by kernel_rfl
theorem polarPassiveC3 : (Try.f11.params.all (Try.prog.readableRec ·)) = true := by kernel_rfl
theorem polarPassiveC4 : (namedTie Try.prog Rows.polarPassiveRow.named Rows.polarPassiveSpec.vars) = true := by kernel_rfl
theorem polarPassiveC5 : ((Rows.polarPassiveRow.stops == [])) = true := by kernel_rfl
theorem polarPassiveC7 : ((Rows.polarPassiveRow.knobs == [])) = true := by kernel_rfl
theorem polarPassiveC9 : ((Rows.polarPassiveRow.inPlace == Try.prog.inPlace 11)) = true := by kernel_rfl
theorem polarPassiveC10 : ((Rows.polarPassiveRow.unfollowed == Try.prog.unfollowed 11)) = true := by kernel_rfl
theorem polarPassiveC11 : ((Rows.polarPassiveRow.recurses == Try.prog.recurses 11)) = true := by kernel_rfl
theorem polarPassiveC12 : ((Rows.polarPassiveRow.named == Try.prog.varsNamed 11)) = true := by kernel_rfl
theorem polarPassiveC13 : ((Rows.polarPassiveRow.maps == (Try.f11.params.toList ++ Rows.polarPassiveSpec.plain.varTypes Try.prog).any (Try.prog.mapsRec ·))) = true := by kernel_rfl
theorem polarPassiveC14 : ((Rows.polarPassiveRow.ifaces == (Try.f11.params.toList ++ Rows.polarPassiveSpec.plain.varTypes Try.prog).any (Try.prog.ifacesRec ·))) = true := by kernel_rfl
theorem polarPassiveC15 : ((Rows.polarPassiveRow.mapsOut == Try.prog.mapsAmong Try.f11.resultTypes.toList)) = true := by kernel_rfl
theorem polarPassiveC16 : ((Rows.polarPassiveRow.loops == (Try.f11.params.toList ++ Rows.polarPassiveSpec.plain.varTypes Try.prog).any (Try.prog.loopsFrom ·))) = true := by kernel_rfl
theorem polarPassiveC17 : ((Rows.polarPassiveRow.wideKeys == (Try.f11.params.toList ++ Rows.polarPassiveSpec.plain.varTypes Try.prog ++ Try.f11.resultTypes.toList).any (Try.prog.wideKeysFrom ·))) = true := by kernel_rfl
theorem polarPassiveC18 : (Rows.polarPassiveSpec.vars.all (Try.prog.varReadable ·)) = true := by kernel_rfl
theorem polarPassiveC19 : (Try.f11.resultTypes.all (fun t => Try.prog.readableRec t && decide (t < Try.prog.types.size))) = true := by kernel_rfl
theorem polarPassiveC20 : ((Rows.polarPassiveRow.ifacesOut == Try.f11.resultTypes.toList.any (Try.prog.ifacesRec ·))) = true := by kernel_rfl
theorem polarPassiveC21 : ((Rows.polarPassiveRow.loopsOut == Try.f11.resultTypes.toList.any (Try.prog.loopsFrom ·))) = true := by kernel_rfl
theorem polarPassiveC22 : ((Rows.polarPassiveRow.plainKeys == Try.prog.plainKeys)) = true := by kernel_rfl
theorem polarPassiveC23 : (Rows.polarPassiveRow.shortTexts.isNone) = true := by kernel_rfl
theorem polarPassiveC26 : ((Rows.polarPassiveRow.lifted == Try.prog.liftsFinal)) = true := by kernel_rfl
theorem polarPassiveC27 : ((Try.prog.make == some Rows.polarPassiveRow.make)) = true := by kernel_rfl
theorem polarPassiveC28 : ((Rows.polarPassiveRow.kinds == (if Rows.polarPassiveRow.domain.isEmpty then [] else Try.f11.params.toList.map fun t => match Try.prog.underlying t with | some (.int k) => some k | _ => none))) = true := by kernel_rfl
theorem polarPassiveC29 : ((Rows.polarPassiveRow.pinned == Rows.polarPassiveRow.pinnedBy)) = true := by kernel_rfl
theorem polarPassiveC30 : ((Rows.polarPassiveRow.veiled == (Try.f11.params.toList ++ Rows.polarPassiveSpec.plain.varTypes Try.prog ++ Try.f11.resultTypes.toList).any (Try.prog.veiledRec ·))) = true := by kernel_rfl
theorem polarPassiveC31 : (Rows.polarPassiveRow.veiledFits Try.prog Try.f11.params.toList (Try.f11.params.toList ++ Rows.polarPassiveSpec.plain.varTypes Try.prog ++ Try.f11.resultTypes.toList)) = true := by kernel_rfl
set_option maxRecDepth 100000 in
theorem polarPassiveClosed : joinedFacts Try.prog 11 Try.f11 Rows.polarPassiveSpec Rows.polarPassiveRow = true :=
  joined_mk polarPassiveC0 clo1 clo2 polarPassiveC3 polarPassiveC4 polarPassiveC5 clo6 polarPassiveC7 clo8 polarPassiveC9 polarPassiveC10 polarPassiveC11 polarPassiveC12 polarPassiveC13 polarPassiveC14 polarPassiveC15 polarPassiveC16 polarPassiveC17 polarPassiveC18 polarPassiveC19 polarPassiveC20 polarPassiveC21 polarPassiveC22 polarPassiveC23 clo24 clo25 polarPassiveC26 polarPassiveC27 polarPassiveC28 polarPassiveC29 polarPassiveC30 polarPassiveC31
end Go.Proofs.Ytcggbkocpahkdaa
