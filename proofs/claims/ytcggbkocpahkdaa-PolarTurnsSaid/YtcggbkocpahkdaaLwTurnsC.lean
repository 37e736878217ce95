/- The closed facts of the row of the law PolarTurns. -/
import Derived.Test.YtcggbkocpahkdaaPoClo
namespace Go.Proofs.Ytcggbkocpahkdaa
open Go Go.Ex Go.RowKit Go.WideShapes Go.ChangeShapes Go.ChangeAt
theorem polarTurnsC0 : (Rows.polarTurnsRow.wf (OpenSpec.ofChange Rows.polarTurnsSpec)) = true := by kernel_rfl
theorem polarTurnsC3 : (Try.f7.params.all (Try.prog.readableRec ·)) = true := by kernel_rfl
theorem polarTurnsC4 : (namedTie Try.prog Rows.polarTurnsRow.named Rows.polarTurnsSpec.vars) = true := by kernel_rfl
theorem polarTurnsC5 : ((Rows.polarTurnsRow.stops == [])) = true := by kernel_rfl
theorem polarTurnsC7 : ((Rows.polarTurnsRow.knobs == [])) = true := by kernel_rfl
theorem polarTurnsC9 : ((Rows.polarTurnsRow.inPlace == Try.prog.inPlace 7)) = true := by kernel_rfl
theorem polarTurnsC10 : ((Rows.polarTurnsRow.unfollowed == Try.prog.unfollowed 7)) = true := by kernel_rfl
theorem polarTurnsC11 : ((Rows.polarTurnsRow.recurses == Try.prog.recurses 7)) = true := by kernel_rfl
theorem polarTurnsC12 : ((Rows.polarTurnsRow.named == Try.prog.varsNamed 7)) = true := by kernel_rfl
theorem polarTurnsC13 : ((Rows.polarTurnsRow.maps == (Try.f7.params.toList ++ Rows.polarTurnsSpec.plain.varTypes Try.prog).any (Try.prog.mapsRec ·))) = true := by kernel_rfl
theorem polarTurnsC14 : ((Rows.polarTurnsRow.ifaces == (Try.f7.params.toList ++ Rows.polarTurnsSpec.plain.varTypes Try.prog).any (Try.prog.ifacesRec ·))) = true := by kernel_rfl
theorem polarTurnsC15 : ((Rows.polarTurnsRow.mapsOut == Try.prog.mapsAmong Try.f7.resultTypes.toList)) = true := by kernel_rfl
theorem polarTurnsC16 : ((Rows.polarTurnsRow.loops == (Try.f7.params.toList ++ Rows.polarTurnsSpec.plain.varTypes Try.prog).any (Try.prog.loopsFrom ·))) = true := by kernel_rfl
theorem polarTurnsC17 : ((Rows.polarTurnsRow.wideKeys == (Try.f7.params.toList ++ Rows.polarTurnsSpec.plain.varTypes Try.prog ++ Try.f7.resultTypes.toList).any (Try.prog.wideKeysFrom ·))) = true := by kernel_rfl
theorem polarTurnsC18 : (Rows.polarTurnsSpec.vars.all (Try.prog.varReadable ·)) = true := by kernel_rfl
theorem polarTurnsC19 : (Try.f7.resultTypes.all (fun t => Try.prog.readableRec t && decide (t < Try.prog.types.size))) = true := by kernel_rfl
theorem polarTurnsC20 : ((Rows.polarTurnsRow.ifacesOut == Try.f7.resultTypes.toList.any (Try.prog.ifacesRec ·))) = true := by kernel_rfl
theorem polarTurnsC21 : ((Rows.polarTurnsRow.loopsOut == Try.f7.resultTypes.toList.any (Try.prog.loopsFrom ·))) = true := by kernel_rfl
theorem polarTurnsC22 : ((Rows.polarTurnsRow.plainKeys == Try.prog.plainKeys)) = true := by kernel_rfl
theorem polarTurnsC23 : (Rows.polarTurnsRow.shortTexts.isNone) = true := by kernel_rfl
theorem polarTurnsC26 : ((Rows.polarTurnsRow.lifted == Try.prog.liftsFinal)) = true := by kernel_rfl
theorem polarTurnsC27 : ((Try.prog.make == some Rows.polarTurnsRow.make)) = true := by kernel_rfl
theorem polarTurnsC28 : ((Rows.polarTurnsRow.kinds == (if Rows.polarTurnsRow.domain.isEmpty then [] else Try.f7.params.toList.map fun t => match Try.prog.underlying t with | some (.int k) => some k | _ => none))) = true := by kernel_rfl
theorem polarTurnsC29 : ((Rows.polarTurnsRow.pinned == Rows.polarTurnsRow.pinnedBy)) = true := by kernel_rfl
theorem polarTurnsC30 : ((Rows.polarTurnsRow.veiled == (Try.f7.params.toList ++ Rows.polarTurnsSpec.plain.varTypes Try.prog ++ Try.f7.resultTypes.toList).any (Try.prog.veiledRec ·))) = true := by kernel_rfl
theorem polarTurnsC31 : (Rows.polarTurnsRow.veiledFits Try.prog Try.f7.params.toList (Try.f7.params.toList ++ Rows.polarTurnsSpec.plain.varTypes Try.prog ++ Try.f7.resultTypes.toList)) = true := by kernel_rfl
set_option maxRecDepth 100000 in
theorem polarTurnsClosed : joinedFacts Try.prog 7 Try.f7 Rows.polarTurnsSpec Rows.polarTurnsRow = true :=
  joined_mk polarTurnsC0 clo1 clo2 polarTurnsC3 polarTurnsC4 polarTurnsC5 clo6 polarTurnsC7 clo8 polarTurnsC9 polarTurnsC10 polarTurnsC11 polarTurnsC12 polarTurnsC13 polarTurnsC14 polarTurnsC15 polarTurnsC16 polarTurnsC17 polarTurnsC18 polarTurnsC19 polarTurnsC20 polarTurnsC21 polarTurnsC22 polarTurnsC23 clo24 clo25 polarTurnsC26 polarTurnsC27 polarTurnsC28 polarTurnsC29 polarTurnsC30 polarTurnsC31
end Go.Proofs.Ytcggbkocpahkdaa
