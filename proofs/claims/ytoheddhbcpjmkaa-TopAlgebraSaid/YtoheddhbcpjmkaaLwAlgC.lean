/- The closed facts of the row of the law TopAlgebra. -/
import Derived.Test.YtoheddhbcpjmkaaPoClo
namespace Go.Proofs.Ytoheddhbcpjmkaa
open Go Go.Ex Go.RowKit Go.WideShapes Go.ChangeShapes Go.ChangeAt
theorem topAlgebraC0 : (Rows.topAlgebraRow.wf (OpenSpec.ofChange Rows.topAlgebraSpec)) = true := by kernel_rfl
theorem topAlgebraC3 : (Try.f3.params.all (Try.prog.readableRec ·)) = true := by kernel_rfl
theorem topAlgebraC4 : (namedTie Try.prog Rows.topAlgebraRow.named Rows.topAlgebraSpec.vars) = true := by kernel_rfl
theorem topAlgebraC5 : ((Rows.topAlgebraRow.stops == [])) = true := by kernel_rfl
theorem topAlgebraC7 : ((Rows.topAlgebraRow.knobs == [])) = true := by kernel_rfl
theorem topAlgebraC9 : ((Rows.topAlgebraRow.inPlace == Try.prog.inPlace 3)) = true := by kernel_rfl
theorem topAlgebraC10 : ((Rows.topAlgebraRow.unfollowed == Try.prog.unfollowed 3)) = true := by kernel_rfl
theorem topAlgebraC11 : ((Rows.topAlgebraRow.recurses == Try.prog.recurses 3)) = true := by kernel_rfl
theorem topAlgebraC12 : ((Rows.topAlgebraRow.named == Try.prog.varsNamed 3)) = true := by kernel_rfl
theorem topAlgebraC13 : ((Rows.topAlgebraRow.maps == (Try.f3.params.toList ++ Rows.topAlgebraSpec.plain.varTypes Try.prog).any (Try.prog.mapsRec ·))) = true := by kernel_rfl
theorem topAlgebraC14 : ((Rows.topAlgebraRow.ifaces == (Try.f3.params.toList ++ Rows.topAlgebraSpec.plain.varTypes Try.prog).any (Try.prog.ifacesRec ·))) = true := by kernel_rfl
theorem topAlgebraC15 : ((Rows.topAlgebraRow.mapsOut == Try.prog.mapsAmong Try.f3.resultTypes.toList)) = true := by kernel_rfl
theorem topAlgebraC16 : ((Rows.topAlgebraRow.loops == (Try.f3.params.toList ++ Rows.topAlgebraSpec.plain.varTypes Try.prog).any (Try.prog.loopsFrom ·))) = true := by kernel_rfl
theorem topAlgebraC17 : ((Rows.topAlgebraRow.wideKeys == (Try.f3.params.toList ++ Rows.topAlgebraSpec.plain.varTypes Try.prog ++ Try.f3.resultTypes.toList).any (Try.prog.wideKeysFrom ·))) = true := by kernel_rfl
theorem topAlgebraC18 : (Rows.topAlgebraSpec.vars.all (Try.prog.varReadable ·)) = true := by kernel_rfl
theorem topAlgebraC19 : (Try.f3.resultTypes.all (fun t => Try.prog.readableRec t && decide (t < Try.prog.types.size))) = true := by kernel_rfl
theorem topAlgebraC20 : ((Rows.topAlgebraRow.ifacesOut == Try.f3.resultTypes.toList.any (Try.prog.ifacesRec ·))) = true := by kernel_rfl
theorem topAlgebraC21 : ((Rows.topAlgebraRow.loopsOut == Try.f3.resultTypes.toList.any (Try.prog.loopsFrom ·))) = true := by kernel_rfl
theorem topAlgebraC22 : ((Rows.topAlgebraRow.plainKeys == Try.prog.plainKeys)) = true := by kernel_rfl
theorem topAlgebraC23 : (Rows.topAlgebraRow.shortTexts.isNone) = true := by kernel_rfl
theorem topAlgebraC26 : ((Rows.topAlgebraRow.lifted == Try.prog.liftsFinal)) = true := by kernel_rfl
theorem topAlgebraC27 : ((Try.prog.make == some Rows.topAlgebraRow.make)) = true := by kernel_rfl
theorem topAlgebraC28 : ((Rows.topAlgebraRow.kinds == (if Rows.topAlgebraRow.domain.isEmpty then [] else Try.f3.params.toList.map fun t => match Try.prog.underlying t with | some (.int k) => some k | _ => none))) = true := by kernel_rfl
theorem topAlgebraC29 : ((Rows.topAlgebraRow.pinned == Rows.topAlgebraRow.pinnedBy)) = true := by kernel_rfl
theorem topAlgebraC30 : ((Rows.topAlgebraRow.veiled == (Try.f3.params.toList ++ Rows.topAlgebraSpec.plain.varTypes Try.prog ++ Try.f3.resultTypes.toList).any (Try.prog.veiledRec ·))) = true := by kernel_rfl
theorem topAlgebraC31 : (Rows.topAlgebraRow.veiledFits Try.prog Try.f3.params.toList (Try.f3.params.toList ++ Rows.topAlgebraSpec.plain.varTypes Try.prog ++ Try.f3.resultTypes.toList)) = true := by kernel_rfl
set_option maxRecDepth 100000 in
theorem topAlgebraClosed : joinedFacts Try.prog 3 Try.f3 Rows.topAlgebraSpec Rows.topAlgebraRow = true :=
  joined_mk topAlgebraC0 clo1 clo2 topAlgebraC3 topAlgebraC4 topAlgebraC5 clo6 topAlgebraC7 clo8 topAlgebraC9 topAlgebraC10 topAlgebraC11 topAlgebraC12 topAlgebraC13 topAlgebraC14 topAlgebraC15 topAlgebraC16 topAlgebraC17 topAlgebraC18 topAlgebraC19 topAlgebraC20 topAlgebraC21 topAlgebraC22 topAlgebraC23 clo24 clo25 topAlgebraC26 topAlgebraC27 topAlgebraC28 topAlgebraC29 topAlgebraC30 topAlgebraC31
end Go.Proofs.Ytoheddhbcpjmkaa
