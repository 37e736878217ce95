/- The closed facts of the row of the law RackTables. -/
import Derived.Test.YtdpabnfcfakjeaaPoClo

namespace Go.Proofs.Ytdpabnfcfakjeaa
open Go Go.Ex Go.RowKit Go.WideShapes Go.ChangeShapes Go.ChangeAt
theorem rackTablesC0 : (Rows.rackTablesRow.wf (OpenSpec.ofChange Rows.rackTablesSpec)) = true := by kernel_rfl
theorem rackTablesC3 : (Try.f8.params.all (Try.prog.readableRec ·)) = true := by kernel_rfl
theorem rackTablesC4 : (namedTie Try.prog Rows.rackTablesRow.named Rows.rackTablesSpec.vars) = true := by kernel_rfl
theorem rackTablesC5 : ((Rows.rackTablesRow.stops == [])) = true := by kernel_rfl
theorem rackTablesC7 : ((Rows.rackTablesRow.knobs == [])) = true := by kernel_rfl
theorem rackTablesC9 : ((Rows.rackTablesRow.inPlace == Try.prog.inPlace 8)) = true := by kernel_rfl
theorem rackTablesC10 : ((Rows.rackTablesRow.unfollowed == Try.prog.unfollowed 8)) = true := by kernel_rfl
theorem rackTablesC11 : ((Rows.rackTablesRow.recurses == Try.prog.recurses 8)) = true := by kernel_rfl
theorem rackTablesC12 : ((Rows.rackTablesRow.named == Try.prog.varsNamed 8)) = true := by kernel_rfl
theorem rackTablesC13 : ((Rows.rackTablesRow.maps == (Try.f8.params.toList ++ Rows.rackTablesSpec.plain.varTypes Try.prog).any (Try.prog.mapsRec ·))) = true := by kernel_rfl
theorem rackTablesC14 : ((Rows.rackTablesRow.ifaces == (Try.f8.params.toList ++ Rows.rackTablesSpec.plain.varTypes Try.prog).any (Try.prog.ifacesRec ·))) = true := by kernel_rfl
theorem rackTablesC15 : ((Rows.rackTablesRow.mapsOut == Try.prog.mapsAmong Try.f8.resultTypes.toList)) = true := by kernel_rfl
theorem rackTablesC16 : ((Rows.rackTablesRow.loops == (Try.f8.params.toList ++ Rows.rackTablesSpec.plain.varTypes Try.prog).any (Try.prog.loopsFrom ·))) = true := by kernel_rfl
theorem rackTablesC17 : ((Rows.rackTablesRow.wideKeys == (Try.f8.params.toList ++ Rows.rackTablesSpec.plain.varTypes Try.prog ++ Try.f8.resultTypes.toList).any (Try.prog.wideKeysFrom ·))) = true := by kernel_rfl
theorem rackTablesC18 : (Rows.rackTablesSpec.vars.all (Try.prog.varReadable ·)) = true := by kernel_rfl
theorem rackTablesC19 : (Try.f8.resultTypes.all (fun t => Try.prog.readableRec t && decide (t < Try.prog.types.size))) = true := by kernel_rfl
theorem rackTablesC20 : ((Rows.rackTablesRow.ifacesOut == Try.f8.resultTypes.toList.any (Try.prog.ifacesRec ·))) = true := by kernel_rfl
theorem rackTablesC21 : ((Rows.rackTablesRow.loopsOut == Try.f8.resultTypes.toList.any (Try.prog.loopsFrom ·))) = true := by kernel_rfl
theorem rackTablesC22 : ((Rows.rackTablesRow.plainKeys == Try.prog.plainKeys)) = true := by kernel_rfl
theorem rackTablesC23 : (Rows.rackTablesRow.shortTexts.isNone) = true := by kernel_rfl
theorem rackTablesC26 : ((Rows.rackTablesRow.lifted == Try.prog.liftsFinal)) = true := by kernel_rfl
theorem rackTablesC27 : ((Try.prog.make == some Rows.rackTablesRow.make)) = true := by kernel_rfl
theorem rackTablesC28 : ((Rows.rackTablesRow.kinds == (if Rows.rackTablesRow.domain.isEmpty then [] else Try.f8.params.toList.map fun t => match Try.prog.underlying t with | some (.int k) => some k | _ => none))) = true := by kernel_rfl
theorem rackTablesC29 : ((Rows.rackTablesRow.pinned == Rows.rackTablesRow.pinnedBy)) = true := by kernel_rfl
theorem rackTablesC30 : ((Rows.rackTablesRow.veiled == (Try.f8.params.toList ++ Rows.rackTablesSpec.plain.varTypes Try.prog ++ Try.f8.resultTypes.toList).any (Try.prog.veiledRec ·))) = true := by kernel_rfl
theorem rackTablesC31 : (Rows.rackTablesRow.veiledFits Try.prog Try.f8.params.toList (Try.f8.params.toList ++ Rows.rackTablesSpec.plain.varTypes Try.prog ++ Try.f8.resultTypes.toList)) = true := by kernel_rfl
set_option maxRecDepth 100000 in
theorem rackTablesClosed : joinedFacts Try.prog 8 Try.f8 Rows.rackTablesSpec Rows.rackTablesRow = true :=
  joined_mk rackTablesC0 clo1 clo2 rackTablesC3 rackTablesC4 rackTablesC5 clo6 rackTablesC7 clo8 rackTablesC9 rackTablesC10 rackTablesC11 rackTablesC12 rackTablesC13 rackTablesC14 rackTablesC15 rackTablesC16 rackTablesC17 rackTablesC18 rackTablesC19 rackTablesC20 rackTablesC21 rackTablesC22 rackTablesC23 clo24 clo25 rackTablesC26 rackTablesC27 rackTablesC28 rackTablesC29 rackTablesC30 rackTablesC31
end Go.Proofs.Ytdpabnfcfakjeaa

