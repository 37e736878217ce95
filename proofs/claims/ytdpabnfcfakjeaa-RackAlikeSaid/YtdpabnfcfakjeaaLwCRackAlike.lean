/- The closed facts of the row of the law RackAlike. -/
import Derived.Test.YtdpabnfcfakjeaaPoClo

namespace Go.Proofs.Ytdpabnfcfakjeaa
open Go Go.Ex Go.RowKit Go.WideShapes Go.ChangeShapes Go.ChangeAt
theorem rackAlikeC0 : (Rows.rackAlikeRow.wf (OpenSpec.ofChange Rows.rackAlikeSpec)) = true := by kernel_rfl
theorem rackAlikeC3 : (Try.f10.params.all (Try.prog.readableRec ·)) = true := by kernel_rfl
theorem rackAlikeC4 : (namedTie Try.prog Rows.rackAlikeRow.named Rows.rackAlikeSpec.vars) = true := by kernel_rfl
theorem rackAlikeC5 : ((Rows.rackAlikeRow.stops == [])) = true := by kernel_rfl
theorem rackAlikeC7 : ((Rows.rackAlikeRow.knobs == [])) = true := by kernel_rfl
theorem rackAlikeC9 : ((Rows.rackAlikeRow.inPlace == Try.prog.inPlace 10)) = true := by kernel_rfl
theorem rackAlikeC10 : ((Rows.rackAlikeRow.unfollowed == Try.prog.unfollowed 10)) = true := by kernel_rfl
theorem rackAlikeC11 : ((Rows.rackAlikeRow.recurses == Try.prog.recurses 10)) = true := by kernel_rfl
theorem rackAlikeC12 : ((Rows.rackAlikeRow.named == Try.prog.varsNamed 10)) = true := by kernel_rfl
theorem rackAlikeC13 : ((Rows.rackAlikeRow.maps == (Try.f10.params.toList ++ Rows.rackAlikeSpec.plain.varTypes Try.prog).any (Try.prog.mapsRec ·))) = true := by kernel_rfl
theorem rackAlikeC14 : ((Rows.rackAlikeRow.ifaces == (Try.f10.params.toList ++ Rows.rackAlikeSpec.plain.varTypes Try.prog).any (Try.prog.ifacesRec ·))) = true := by kernel_rfl
theorem rackAlikeC15 : ((Rows.rackAlikeRow.mapsOut == Try.prog.mapsAmong Try.f10.resultTypes.toList)) = true := by kernel_rfl
theorem rackAlikeC16 : ((Rows.rackAlikeRow.loops == (Try.f10.params.toList ++ Rows.rackAlikeSpec.plain.varTypes Try.prog).any (Try.prog.loopsFrom ·))) = true := by kernel_rfl
theorem rackAlikeC17 : ((Rows.rackAlikeRow.wideKeys == (Try.f10.params.toList ++ Rows.rackAlikeSpec.plain.varTypes Try.prog ++ Try.f10.resultTypes.toList).any (Try.prog.wideKeysFrom ·))) = true := by kernel_rfl
theorem rackAlikeC18 : (Rows.rackAlikeSpec.vars.all (Try.prog.varReadable ·)) = true := by kernel_rfl
theorem rackAlikeC19 : (Try.f10.resultTypes.all (fun t => Try.prog.readableRec t && decide (t < Try.prog.types.size))) = true := by kernel_rfl
theorem rackAlikeC20 : ((Rows.rackAlikeRow.ifacesOut == Try.f10.resultTypes.toList.any (Try.prog.ifacesRec ·))) = true := by kernel_rfl
theorem rackAlikeC21 : ((Rows.rackAlikeRow.loopsOut == Try.f10.resultTypes.toList.any (Try.prog.loopsFrom ·))) = true := by kernel_rfl
theorem rackAlikeC22 : ((Rows.rackAlikeRow.plainKeys == Try.prog.plainKeys)) = true := by kernel_rfl
theorem rackAlikeC23 : (Rows.rackAlikeRow.shortTexts.isNone) = true := by kernel_rfl
theorem rackAlikeC26 : ((Rows.rackAlikeRow.lifted == Try.prog.liftsFinal)) = true := by kernel_rfl
theorem rackAlikeC27 : ((Try.prog.make == some Rows.rackAlikeRow.make)) = true := by kernel_rfl
theorem rackAlikeC28 : ((Rows.rackAlikeRow.kinds == (if Rows.rackAlikeRow.domain.isEmpty then [] else Try.f10.params.toList.map fun t => match Try.prog.underlying t with | some (.int k) => some k | _ => none))) = true := by kernel_rfl
theorem rackAlikeC29 : ((Rows.rackAlikeRow.pinned == Rows.rackAlikeRow.pinnedBy)) = true := by kernel_rfl
theorem rackAlikeC30 : ((Rows.rackAlikeRow.veiled == (Try.f10.params.toList ++ Rows.rackAlikeSpec.plain.varTypes Try.prog ++ Try.f10.resultTypes.toList).any (Try.prog.veiledRec ·))) = true := by kernel_rfl
theorem rackAlikeC31 : (Rows.rackAlikeRow.veiledFits Try.prog Try.f10.params.toList (Try.f10.params.toList ++ Rows.rackAlikeSpec.plain.varTypes Try.prog ++ Try.f10.resultTypes.toList)) = true := by kernel_rfl
set_option maxRecDepth 100000 in
theorem rackAlikeClosed : joinedFacts Try.prog 10 Try.f10 Rows.rackAlikeSpec Rows.rackAlikeRow = true :=
  joined_mk rackAlikeC0 clo1 clo2 rackAlikeC3 rackAlikeC4 rackAlikeC5 clo6 rackAlikeC7 clo8 rackAlikeC9 rackAlikeC10 rackAlikeC11 rackAlikeC12 rackAlikeC13 rackAlikeC14 rackAlikeC15 rackAlikeC16 rackAlikeC17 rackAlikeC18 rackAlikeC19 rackAlikeC20 rackAlikeC21 rackAlikeC22 rackAlikeC23 clo24 clo25 rackAlikeC26 rackAlikeC27 rackAlikeC28 rackAlikeC29 rackAlikeC30 rackAlikeC31
end Go.Proofs.Ytdpabnfcfakjeaa

