/- The closed facts of the row of the law RackSpreads. -/
import Derived.Test.YtdpabnfcfakjeaaPoClo

namespace Go.Proofs.Ytdpabnfcfakjeaa
open Go Go.Ex Go.RowKit Go.WideShapes Go.ChangeShapes Go.ChangeAt
theorem rackSpreadsC0 : (Rows.rackSpreadsRow.wf (OpenSpec.ofChange Rows.rackSpreadsSpec)) = true := by kernel_rfl
theorem rackSpreadsC3 : (Try.f3.params.all (Try.prog.readableRec ·)) = true := by kernel_rfl
theorem rackSpreadsC4 : (namedTie Try.prog Rows.rackSpreadsRow.named Rows.rackSpreadsSpec.vars) = true := by kernel_rfl
theorem rackSpreadsC5 : ((Rows.rackSpreadsRow.stops == [])) = true := by kernel_rfl
theorem rackSpreadsC7 : ((Rows.rackSpreadsRow.knobs == [])) = true := by kernel_rfl
theorem rackSpreadsC9 : ((Rows.rackSpreadsRow.inPlace == Try.prog.inPlace 3)) = true := by kernel_rfl
theorem rackSpreadsC10 : ((Rows.rackSpreadsRow.unfollowed == Try.prog.unfollowed 3)) = true := by kernel_rfl
theorem rackSpreadsC11 : ((Rows.rackSpreadsRow.recurses == Try.prog.recurses 3)) = true := by kernel_rfl
theorem rackSpreadsC12 : ((Rows.rackSpreadsRow.named == Try.prog.varsNamed 3)) = true := by kernel_rfl
theorem rackSpreadsC13 : ((Rows.rackSpreadsRow.maps == (Try.f3.params.toList ++ Rows.rackSpreadsSpec.plain.varTypes Try.prog).any (Try.prog.mapsRec ·))) = true := by kernel_rfl
theorem rackSpreadsC14 : ((Rows.rackSpreadsRow.ifaces == (Try.f3.params.toList ++ Rows.rackSpreadsSpec.plain.varTypes Try.prog).any (Try.prog.ifacesRec ·))) = true := by kernel_rfl
theorem rackSpreadsC15 : ((Rows.rackSpreadsRow.mapsOut == Try.prog.mapsAmong Try.f3.resultTypes.toList)) = true := by kernel_rfl
theorem rackSpreadsC16 : ((Rows.rackSpreadsRow.loops == (Try.f3.params.toList ++ Rows.rackSpreadsSpec.plain.varTypes Try.prog).any (Try.prog.loopsFrom ·))) = true := by kernel_rfl
theorem rackSpreadsC17 : ((Rows.rackSpreadsRow.wideKeys == (Try.f3.params.toList ++ Rows.rackSpreadsSpec.plain.varTypes Try.prog ++ Try.f3.resultTypes.toList).any (Try.prog.wideKeysFrom ·))) = true := by kernel_rfl
theorem rackSpreadsC18 : (Rows.rackSpreadsSpec.vars.all (Try.prog.varReadable ·)) = true := by kernel_rfl
theorem rackSpreadsC19 : (Try.f3.resultTypes.all (fun t => Try.prog.readableRec t && decide (t < Try.prog.types.size))) = true := by kernel_rfl
theorem rackSpreadsC20 : ((Rows.rackSpreadsRow.ifacesOut == Try.f3.resultTypes.toList.any (Try.prog.ifacesRec ·))) = true := by kernel_rfl
theorem rackSpreadsC21 : ((Rows.rackSpreadsRow.loopsOut == Try.f3.resultTypes.toList.any (Try.prog.loopsFrom ·))) = true := by kernel_rfl
theorem rackSpreadsC22 : ((Rows.rackSpreadsRow.plainKeys == Try.prog.plainKeys)) = true := by kernel_rfl
theorem rackSpreadsC23 : (Rows.rackSpreadsRow.shortTexts.isNone) = true := by kernel_rfl
theorem rackSpreadsC26 : ((Rows.rackSpreadsRow.lifted == Try.prog.liftsFinal)) = true := by kernel_rfl
theorem rackSpreadsC27 : ((Try.prog.make == some Rows.rackSpreadsRow.make)) = true := by kernel_rfl
theorem rackSpreadsC28 : ((Rows.rackSpreadsRow.kinds == (if Rows.rackSpreadsRow.domain.isEmpty then [] else Try.f3.params.toList.map fun t => match Try.prog.underlying t with | some (.int k) => some k | _ => none))) = true := by kernel_rfl
theorem rackSpreadsC29 : ((Rows.rackSpreadsRow.pinned == Rows.rackSpreadsRow.pinnedBy)) = true := by kernel_rfl
theorem rackSpreadsC30 : ((Rows.rackSpreadsRow.veiled == (Try.f3.params.toList ++ Rows.rackSpreadsSpec.plain.varTypes Try.prog ++ Try.f3.resultTypes.toList).any (Try.prog.veiledRec ·))) = true := by kernel_rfl
theorem rackSpreadsC31 : (Rows.rackSpreadsRow.veiledFits Try.prog Try.f3.params.toList (Try.f3.params.toList ++ Rows.rackSpreadsSpec.plain.varTypes Try.prog ++ Try.f3.resultTypes.toList)) = true := by kernel_rfl
set_option maxRecDepth 100000 in
theorem rackSpreadsClosed : joinedFacts Try.prog 3 Try.f3 Rows.rackSpreadsSpec Rows.rackSpreadsRow = true :=
  joined_mk rackSpreadsC0 clo1 clo2 rackSpreadsC3 rackSpreadsC4 rackSpreadsC5 clo6 rackSpreadsC7 clo8 rackSpreadsC9 rackSpreadsC10 rackSpreadsC11 rackSpreadsC12 rackSpreadsC13 rackSpreadsC14 rackSpreadsC15 rackSpreadsC16 rackSpreadsC17 rackSpreadsC18 rackSpreadsC19 rackSpreadsC20 rackSpreadsC21 rackSpreadsC22 rackSpreadsC23 clo24 clo25 rackSpreadsC26 rackSpreadsC27 rackSpreadsC28 rackSpreadsC29 rackSpreadsC30 rackSpreadsC31
end Go.Proofs.Ytdpabnfcfakjeaa

