/- The closed facts of the row of the law PolarPure. -/
import Derived.Test.YtcggbkocpahkdaaPoClo
namespace Go.Proofs.Ytcggbkocpahkdaa
open Go Go.Ex Go.RowKit Go.WideShapes Go.ChangeShapes Go.ChangeAt
theorem polarPureC0 : (Rows.polarPureRow.wf (OpenSpec.ofChange Rows.polarPureSpec)) = true := by kernel_rfl
theorem polarPureC3 : (Try.f14.params.all (Try.prog.readableRec ·)) = true := by kernel_rfl
theorem polarPureC4 : (namedTie Try.prog Rows.polarPureRow.named Rows.polarPureSpec.vars) = true := by kernel_rfl
theorem polarPureC5 : ((Rows.polarPureRow.stops == [])) = true := by kernel_rfl
theorem polarPureC7 : ((Rows.polarPureRow.knobs == [])) = true := by kernel_rfl
theorem polarPureC9 : ((Rows.polarPureRow.inPlace == Try.prog.inPlace 14)) = true := by kernel_rfl
theorem polarPureC10 : ((Rows.polarPureRow.unfollowed == Try.prog.unfollowed 14)) = true := by kernel_rfl
theorem polarPureC11 : ((Rows.polarPureRow.recurses == Try.prog.recurses 14)) = true := by kernel_rfl
theorem polarPureC12 : ((Rows.polarPureRow.named == Try.prog.varsNamed 14)) = true := by kernel_rfl
theorem polarPureC13 : ((Rows.polarPureRow.maps == (Try.f14.params.toList ++ Rows.polarPureSpec.plain.varTypes Try.prog).any (Try.prog.mapsRec ·))) = true := by kernel_rfl
theorem polarPureC14 : ((Rows.polarPureRow.ifaces == (Try.f14.params.toList ++ Rows.polarPureSpec.plain.varTypes Try.prog).any (Try.prog.ifacesRec ·))) = true := by kernel_rfl
theorem polarPureC15 : ((Rows.polarPureRow.mapsOut == Try.prog.mapsAmong Try.f14.resultTypes.toList)) = true := by kernel_rfl
theorem polarPureC16 : ((Rows.polarPureRow.loops == (Try.f14.params.toList ++ Rows.polarPureSpec.plain.varTypes Try.prog).any (Try.prog.loopsFrom ·))) = true := by kernel_rfl
theorem polarPureC17 : ((Rows.polarPureRow.wideKeys == (Try.f14.params.toList ++ Rows.polarPureSpec.plain.varTypes Try.prog ++ Try.f14.resultTypes.toList).any (Try.prog.wideKeysFrom ·))) = true := by kernel_rfl
theorem polarPureC18 : (Rows.polarPureSpec.vars.all (Try.prog.varReadable ·)) = true := by kernel_rfl
theorem polarPureC19 : (Try.f14.resultTypes.all (fun t => Try.prog.readableRec t && decide (t < Try.prog.types.size))) = true := by kernel_rfl
theorem polarPureC20 : ((Rows.polarPureRow.ifacesOut == Try.f14.resultTypes.toList.any (Try.prog.ifacesRec ·))) = true := by kernel_rfl
theorem polarPureC21 : ((Rows.polarPureRow.loopsOut == Try.f14.resultTypes.toList.any (Try.prog.loopsFrom ·))) = true := by kernel_rfl
theorem polarPureC22 : ((Rows.polarPureRow.plainKeys == Try.prog.plainKeys)) = true := by kernel_rfl
theorem polarPureC23 : (Rows.polarPureRow.shortTexts.isNone) = true := by kernel_rfl
theorem polarPureC26 : ((Rows.polarPureRow.lifted == Try.prog.liftsFinal)) = true := by kernel_rfl
theorem polarPureC27 : ((Try.prog.make == some Rows.polarPureRow.make)) = true := by kernel_rfl
theorem polarPureC28 : ((Rows.polarPureRow.kinds == (if Rows.polarPureRow.domain.isEmpty then [] else Try.f14.params.toList.map fun t => match Try.prog.underlying t with | some (.int k) => some k | _ => none))) = true := by kernel_rfl
theorem polarPureC29 : ((Rows.polarPureRow.pinned == Rows.polarPureRow.pinnedBy)) = true := by kernel_rfl
theorem polarPureC30 : ((Rows.polarPureRow.veiled == (Try.f14.params.toList ++ Rows.polarPureSpec.plain.varTypes Try.prog ++ Try.f14.resultTypes.toList).any (Try.prog.veiledRec ·))) = true := by kernel_rfl
theorem polarPureC31 : (Rows.polarPureRow.veiledFits Try.prog Try.f14.params.toList (Try.f14.params.toList ++ Rows.polarPureSpec.plain.varTypes Try.prog ++ Try.f14.resultTypes.toList)) = true := by kernel_rfl
set_option maxRecDepth 100000 in
theorem polarPureClosed : joinedFacts Try.prog 14 Try.f14 Rows.polarPureSpec Rows.polarPureRow = true :=
  joined_mk polarPureC0 clo1 clo2 polarPureC3 polarPureC4 polarPureC5 clo6 polarPureC7 clo8 polarPureC9 polarPureC10 polarPureC11 polarPureC12 polarPureC13 polarPureC14 polarPureC15 polarPureC16 polarPureC17 polarPureC18 polarPureC19 polarPureC20 polarPureC21 polarPureC22 polarPureC23 clo24 clo25 polarPureC26 polarPureC27 polarPureC28 polarPureC29 polarPureC30 polarPureC31
end Go.Proofs.Ytcggbkocpahkdaa
