/- The closed facts of the row of the law RackHistories. -/
import Derived.Test.YtdpabnfcfakjeaaPoClo

namespace Go.Proofs.Ytdpabnfcfakjeaa
open Go Go.Ex Go.RowKit Go.WideShapes Go.ChangeShapes Go.ChangeAt
theorem rackHistoriesC0 : (Rows.rackHistoriesRow.wf (OpenSpec.ofChange Rows.rackHistoriesSpec)) = true := by kernel_rfl
theorem rackHistoriesC3 : (Try.f14.params.all (Try.prog.readableRec ·)) = true := by kernel_rfl
theorem rackHistoriesC4 : (namedTie Try.prog Rows.rackHistoriesRow.named Rows.rackHistoriesSpec.vars) = true := by kernel_rfl
theorem rackHistoriesC5 : ((Rows.rackHistoriesRow.stops == [])) = true := by kernel_rfl
theorem rackHistoriesC7 : ((Rows.rackHistoriesRow.knobs == [])) = true := by kernel_rfl
theorem rackHistoriesC9 : ((Rows.rackHistoriesRow.inPlace == Try.prog.inPlace 14)) = true := by kernel_rfl
theorem rackHistoriesC10 : ((Rows.rackHistoriesRow.unfollowed == Try.prog.unfollowed 14)) = true := by kernel_rfl
theorem rackHistoriesC11 : ((Rows.rackHistoriesRow.recurses == Try.prog.recurses 14)) = true := by kernel_rfl
theorem rackHistoriesC12 : ((Rows.rackHistoriesRow.named == Try.prog.varsNamed 14)) = true := by kernel_rfl
theorem rackHistoriesC13 : ((Rows.rackHistoriesRow.maps == (Try.f14.params.toList ++ Rows.rackHistoriesSpec.plain.varTypes Try.prog).any (Try.prog.mapsRec ·))) = true := by kernel_rfl
theorem rackHistoriesC14 : ((Rows.rackHistoriesRow.ifaces == (Try.f14.params.toList ++ Rows.rackHistoriesSpec.plain.varTypes Try.prog).any (Try.prog.ifacesRec ·))) = true := by kernel_rfl
theorem rackHistoriesC15 : ((Rows.rackHistoriesRow.mapsOut == Try.prog.mapsAmong Try.f14.resultTypes.toList)) = true := by kernel_rfl
theorem rackHistoriesC16 : ((Rows.rackHistoriesRow.loops == (Try.f14.params.toList ++ Rows.rackHistoriesSpec.plain.varTypes Try.prog).any (Try.prog.loopsFrom ·))) = true := by kernel_rfl
theorem rackHistoriesC17 : ((Rows.rackHistoriesRow.wideKeys == (Try.f14.params.toList ++ Rows.rackHistoriesSpec.plain.varTypes Try.prog ++ Try.f14.resultTypes.toList).any (Try.prog.wideKeysFrom ·))) = true := by kernel_rfl
theorem rackHistoriesC18 : (Rows.rackHistoriesSpec.vars.all (Try.prog.varReadable ·)) = true := by kernel_rfl
theorem rackHistoriesC19 : (Try.f14.resultTypes.all (fun t => Try.prog.readableRec t && decide (t < Try.prog.types.size))) = true := by kernel_rfl
theorem rackHistoriesC20 : ((Rows.rackHistoriesRow.ifacesOut == Try.f14.resultTypes.toList.any (Try.prog.ifacesRec ·))) = true := by kernel_rfl
theorem rackHistoriesC21 : ((Rows.rackHistoriesRow.loopsOut == Try.f14.resultTypes.toList.any (Try.prog.loopsFrom ·))) = true := by kernel_rfl
theorem rackHistoriesC22 : ((Rows.rackHistoriesRow.plainKeys == Try.prog.plainKeys)) = true := by kernel_rfl
theorem rackHistoriesC23 : (Rows.rackHistoriesRow.shortTexts.isNone) = true := by kernel_rfl
theorem rackHistoriesC26 : ((Rows.rackHistoriesRow.lifted == Try.prog.liftsFinal)) = true := by kernel_rfl
theorem rackHistoriesC27 : ((Try.prog.make == some Rows.rackHistoriesRow.make)) = true := by kernel_rfl
theorem rackHistoriesC28 : ((Rows.rackHistoriesRow.kinds == (if Rows.rackHistoriesRow.domain.isEmpty then [] else Try.f14.params.toList.map fun t => match Try.prog.underlying t with | some (.int k) => some k | _ => none))) = true := by kernel_rfl
theorem rackHistoriesC29 : ((Rows.rackHistoriesRow.pinned == Rows.rackHistoriesRow.pinnedBy)) = true := by kernel_rfl
theorem rackHistoriesC30 : ((Rows.rackHistoriesRow.veiled == (Try.f14.params.toList ++ Rows.rackHistoriesSpec.plain.varTypes Try.prog ++ Try.f14.resultTypes.toList).any (Try.prog.veiledRec ·))) = true := by kernel_rfl
theorem rackHistoriesC31 : (Rows.rackHistoriesRow.veiledFits Try.prog Try.f14.params.toList (Try.f14.params.toList ++ Rows.rackHistoriesSpec.plain.varTypes Try.prog ++ Try.f14.resultTypes.toList)) = true := by kernel_rfl
set_option maxRecDepth 100000 in
theorem rackHistoriesClosed : joinedFacts Try.prog 14 Try.f14 Rows.rackHistoriesSpec Rows.rackHistoriesRow = true :=
  joined_mk rackHistoriesC0 clo1 clo2 rackHistoriesC3 rackHistoriesC4 rackHistoriesC5 clo6 rackHistoriesC7 clo8 rackHistoriesC9 rackHistoriesC10 rackHistoriesC11 rackHistoriesC12 rackHistoriesC13 rackHistoriesC14 rackHistoriesC15 rackHistoriesC16 rackHistoriesC17 rackHistoriesC18 rackHistoriesC19 rackHistoriesC20 rackHistoriesC21 rackHistoriesC22 rackHistoriesC23 clo24 clo25 rackHistoriesC26 rackHistoriesC27 rackHistoriesC28 rackHistoriesC29 rackHistoriesC30 rackHistoriesC31
end Go.Proofs.Ytdpabnfcfakjeaa

