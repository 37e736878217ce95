/- The closed facts of the row of the law RackThick. -/
import Derived.Test.YtdpabnfcfakjeaaPoClo

namespace Go.Proofs.Ytdpabnfcfakjeaa
open Go Go.Ex Go.RowKit Go.WideShapes Go.ChangeShapes Go.ChangeAt
theorem rackThickC0 : (Rows.rackThickRow.wf (OpenSpec.ofChange Rows.rackThickSpec)) = true := by kernel_rfl
theorem rackThickC3 : (Try.f12.params.all (Try.prog.readableRec ·)) = true := by kernel_rfl
theorem rackThickC4 : (namedTie Try.prog Rows.rackThickRow.named Rows.rackThickSpec.vars) = true := by kernel_rfl
theorem rackThickC5 : ((Rows.rackThickRow.stops == [])) = true := by kernel_rfl
theorem rackThickC7 : ((Rows.rackThickRow.knobs == [])) = true := by kernel_rfl
theorem rackThickC9 : ((Rows.rackThickRow.inPlace == Try.prog.inPlace 12)) = true := by kernel_rfl
theorem rackThickC10 : ((Rows.rackThickRow.unfollowed == Try.prog.unfollowed 12)) = true := by kernel_rfl
theorem rackThickC11 : ((Rows.rackThickRow.recurses == Try.prog.recurses 12)) = true := by kernel_rfl
theorem rackThickC12 : ((Rows.rackThickRow.named == Try.prog.varsNamed 12)) = true := by kernel_rfl
theorem rackThickC13 : ((Rows.rackThickRow.maps == (Try.f12.params.toList ++ Rows.rackThickSpec.plain.varTypes Try.prog).any (Try.prog.mapsRec ·))) = true := by kernel_rfl
theorem rackThickC14 : ((Rows.rackThickRow.ifaces == (Try.f12.params.toList ++ Rows.rackThickSpec.plain.varTypes Try.prog).any (Try.prog.ifacesRec ·))) = true := by kernel_rfl
theorem rackThickC15 : ((Rows.rackThickRow.mapsOut == Try.prog.mapsAmong Try.f12.resultTypes.toList)) = true := by kernel_rfl
theorem rackThickC16 : ((Rows.rackThickRow.loops == (Try.f12.params.toList ++ Rows.rackThickSpec.plain.varTypes Try.prog).any (Try.prog.loopsFrom ·))) = true := by kernel_rfl
theorem rackThickC17 : ((Rows.rackThickRow.wideKeys == (Try.f12.params.toList ++ Rows.rackThickSpec.plain.varTypes Try.prog ++ Try.f12.resultTypes.toList).any (Try.prog.wideKeysFrom ·))) = true := by kernel_rfl
theorem rackThickC18 : (Rows.rackThickSpec.vars.all (Try.prog.varReadable ·)) = true := by kernel_rfl
theorem rackThickC19 : (Try.f12.resultTypes.all (fun t => Try.prog.readableRec t && decide (t < Try.prog.types.size))) = true := by kernel_rfl
theorem rackThickC20 : ((Rows.rackThickRow.ifacesOut == Try.f12.resultTypes.toList.any (Try.prog.ifacesRec ·))) = true := by kernel_rfl
theorem rackThickC21 : ((Rows.rackThickRow.loopsOut == Try.f12.resultTypes.toList.any (Try.prog.loopsFrom ·))) = true := by kernel_rfl
theorem rackThickC22 : ((Rows.rackThickRow.plainKeys == Try.prog.plainKeys)) = true := by kernel_rfl
theorem rackThickC23 : (Rows.rackThickRow.shortTexts.isNone) = true := by kernel_rfl
theorem rackThickC26 : ((Rows.rackThickRow.lifted == Try.prog.liftsFinal)) = true := by kernel_rfl
theorem rackThickC27 : ((Try.prog.make == some Rows.rackThickRow.make)) = true := by kernel_rfl
theorem rackThickC28 : ((Rows.rackThickRow.kinds == (if Rows.rackThickRow.domain.isEmpty then [] else Try.f12.params.toList.map fun t => match Try.prog.underlying t with | some (.int k) => some k | _ => none))) = true := by kernel_rfl
theorem rackThickC29 : ((Rows.rackThickRow.pinned == Rows.rackThickRow.pinnedBy)) = true := by kernel_rfl
theorem rackThickC30 : ((Rows.rackThickRow.veiled == (Try.f12.params.toList ++ Rows.rackThickSpec.plain.varTypes Try.prog ++ Try.f12.resultTypes.toList).any (Try.prog.veiledRec ·))) = true := by kernel_rfl
theorem rackThickC31 : (Rows.rackThickRow.veiledFits Try.prog Try.f12.params.toList (Try.f12.params.toList ++ Rows.rackThickSpec.plain.varTypes Try.prog ++ Try.f12.resultTypes.toList)) = true := by kernel_rfl
set_option maxRecDepth 100000 in
theorem rackThickClosed : joinedFacts Try.prog 12 Try.f12 Rows.rackThickSpec Rows.rackThickRow = true :=
  joined_mk rackThickC0 clo1 clo2 rackThickC3 rackThickC4 rackThickC5 clo6 rackThickC7 clo8 rackThickC9 rackThickC10 rackThickC11 rackThickC12 rackThickC13 rackThickC14 rackThickC15 rackThickC16 rackThickC17 rackThickC18 rackThickC19 rackThickC20 rackThickC21 rackThickC22 rackThickC23 clo24 clo25 rackThickC26 rackThickC27 rackThickC28 rackThickC29 rackThickC30 rackThickC31
end Go.Proofs.Ytdpabnfcfakjeaa

