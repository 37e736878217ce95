/- The closed facts of the row of the law TopUnitRoots. -/
import Derived.Test.YtoheddhbcpjmkaaPoP1

namespace Go.Proofs.Ytoheddhbcpjmkaa
open Go Go.Ex Go.RowKit Go.WideShapes Go.ChangeShapes Go.ChangeAt
theorem topUnitRootsC0 : (Rows.topUnitRootsRow.wf (OpenSpec.ofChange Rows.topUnitRootsSpec)) = true := by kernel_rfl
theorem topUnitRootsC3 : (Try.f4.params.all (Try.prog.readableRec ·)) = true := by kernel_rfl
theorem topUnitRootsC4 : (namedTie Try.prog Rows.topUnitRootsRow.named Rows.topUnitRootsSpec.vars) = true := by kernel_rfl
theorem topUnitRootsC5 : ((Rows.topUnitRootsRow.stops == [])) = true := by kernel_rfl
theorem topUnitRootsC7 : ((Rows.topUnitRootsRow.knobs == [])) = true := by kernel_rfl
theorem topUnitRootsC9 : ((Rows.topUnitRootsRow.inPlace == Try.prog.inPlace 4)) = true := by kernel_rfl
theorem topUnitRootsC10 : ((Rows.topUnitRootsRow.unfollowed == Try.prog.unfollowed 4)) = true := by kernel_rfl
theorem topUnitRootsC11 : ((Rows.topUnitRootsRow.recurses == Try.prog.recurses 4)) = true := by kernel_rfl
theorem topUnitRootsC12 : ((Rows.topUnitRootsRow.named == Try.prog.varsNamed 4)) = true := by kernel_rfl
theorem topUnitRootsC13 : ((Rows.topUnitRootsRow.maps == (Try.f4.params.toList ++ Rows.topUnitRootsSpec.plain.varTypes Try.prog).any (Try.prog.mapsRec ·))) = true := by kernel_rfl
theorem topUnitRootsC14 : ((Rows.topUnitRootsRow.ifaces == (Try.f4.params.toList ++ Rows.topUnitRootsSpec.plain.varTypes Try.prog).any (Try.prog.ifacesRec ·))) = true := by kernel_rfl
theorem topUnitRootsC15 : ((Rows.topUnitRootsRow.mapsOut == Try.prog.mapsAmong Try.f4.resultTypes.toList)) = true := by kernel_rfl
theorem topUnitRootsC16 : ((Rows.topUnitRootsRow.loops == (Try.f4.params.toList ++ Rows.topUnitRootsSpec.plain.varTypes Try.prog).any (Try.prog.loopsFrom ·))) = true := by kernel_rfl
theorem topUnitRootsC17 : ((Rows.topUnitRootsRow.wideKeys == (Try.f4.params.toList ++ Rows.topUnitRootsSpec.plain.varTypes Try.prog ++ Try.f4.resultTypes.toList).any (Try.prog.wideKeysFrom ·))) = true := by kernel_rfl
theorem topUnitRootsC18 : (Rows.topUnitRootsSpec.vars.all (Try.prog.varReadable ·)) = true := by kernel_rfl
theorem topUnitRootsC19 : (Try.f4.resultTypes.all (fun t => Try.prog.readableRec t && decide (t < Try.prog.types.size))) = true := by kernel_rfl
theorem topUnitRootsC20 : ((Rows.topUnitRootsRow.ifacesOut == Try.f4.resultTypes.toList.any (Try.prog.ifacesRec ·))) = true := by kernel_rfl
theorem topUnitRootsC21 : ((Rows.topUnitRootsRow.loopsOut == Try.f4.resultTypes.toList.any (Try.prog.loopsFrom ·))) = true := by kernel_rfl
theorem topUnitRootsC22 : ((Rows.topUnitRootsRow.plainKeys == Try.prog.plainKeys)) = true := by kernel_rfl
theorem topUnitRootsC23 : (Rows.topUnitRootsRow.shortTexts.isNone) = true := by kernel_rfl
theorem topUnitRootsC26 : ((Rows.topUnitRootsRow.lifted == Try.prog.liftsFinal)) = true := by kernel_rfl
theorem topUnitRootsC27 : ((Try.prog.make == some Rows.topUnitRootsRow.make)) = true := by kernel_rfl
theorem topUnitRootsC28 : ((Rows.topUnitRootsRow.kinds == (if Rows.topUnitRootsRow.domain.isEmpty then [] else Try.f4.params.toList.map fun t => match Try.prog.underlying t with | some (.int k) => some k | _ => none))) = true := by kernel_rfl
theorem topUnitRootsC29 : ((Rows.topUnitRootsRow.pinned == Rows.topUnitRootsRow.pinnedBy)) = true := by kernel_rfl
theorem topUnitRootsC30 : ((Rows.topUnitRootsRow.veiled == (Try.f4.params.toList ++ Rows.topUnitRootsSpec.plain.varTypes Try.prog ++ Try.f4.resultTypes.toList).any (Try.prog.veiledRec ·))) = true := by kernel_rfl
theorem topUnitRootsC31 : (Rows.topUnitRootsRow.veiledFits Try.prog Try.f4.params.toList (Try.f4.params.toList ++ Rows.topUnitRootsSpec.plain.varTypes Try.prog ++ Try.f4.resultTypes.toList)) = true := by kernel_rfl
set_option maxRecDepth 100000 in
theorem topUnitRootsClosed : joinedFacts Try.prog 4 Try.f4 Rows.topUnitRootsSpec Rows.topUnitRootsRow = true :=
  joined_mk topUnitRootsC0 clo1 clo2 topUnitRootsC3 topUnitRootsC4 topUnitRootsC5 clo6 topUnitRootsC7 clo8 topUnitRootsC9 topUnitRootsC10 topUnitRootsC11 topUnitRootsC12 topUnitRootsC13 topUnitRootsC14 topUnitRootsC15 topUnitRootsC16 topUnitRootsC17 topUnitRootsC18 topUnitRootsC19 topUnitRootsC20 topUnitRootsC21 topUnitRootsC22 topUnitRootsC23 clo24 clo25 topUnitRootsC26 topUnitRootsC27 topUnitRootsC28 topUnitRootsC29 topUnitRootsC30 topUnitRootsC31
end Go.Proofs.Ytoheddhbcpjmkaa

