/- The closed facts of the row of the law RackPlaces. -/
import Derived.Test.YtdpabnfcfakjeaaPoClo

namespace Go.Proofs.Ytdpabnfcfakjeaa
open Go Go.Ex Go.RowKit Go.WideShapes Go.ChangeShapes Go.ChangeAt
theorem rackPlacesC0 : (Rows.rackPlacesRow.wf (OpenSpec.ofChange Rows.rackPlacesSpec)) = true := by kernel_rfl
theorem rackPlacesC3 : (Try.f9.params.all (Try.prog.readableRec ·)) = true := by kernel_rfl
theorem rackPlacesC4 : (namedTie Try.prog Rows.rackPlacesRow.named Rows.rackPlacesSpec.vars) = true := by kernel_rfl
theorem rackPlacesC5 : ((Rows.rackPlacesRow.stops == [])) = true := by kernel_rfl
theorem rackPlacesC7 : ((Rows.rackPlacesRow.knobs == [])) = true := by kernel_rfl
theorem rackPlacesC9 : ((Rows.rackPlacesRow.inPlace == Try.prog.inPlace 9)) = true := by kernel_rfl
theorem rackPlacesC10 : ((Rows.rackPlacesRow.unfollowed == Try.prog.unfollowed 9)) = true := by kernel_rfl
theorem rackPlacesC11 : ((Rows.rackPlacesRow.recurses == Try.prog.recurses 9)) = true := by kernel_rfl
theorem rackPlacesC12 : ((Rows.rackPlacesRow.named == Try.prog.varsNamed 9)) = true := by kernel_rfl
theorem rackPlacesC13 : ((Rows.rackPlacesRow.maps == (Try.f9.params.toList ++ Rows.rackPlacesSpec.plain.varTypes Try.prog).any (Try.prog.mapsRec ·))) = true := by kernel_rfl
theorem rackPlacesC14 : ((Rows.rackPlacesRow.ifaces == (Try.f9.params.toList ++ Rows.rackPlacesSpec.plain.varTypes Try.prog).any (Try.prog.ifacesRec ·))) = true := by kernel_rfl
theorem rackPlacesC15 : ((Rows.rackPlacesRow.mapsOut == Try.prog.mapsAmong Try.f9.resultTypes.toList)) = true := by kernel_rfl
theorem rackPlacesC16 : ((Rows.rackPlacesRow.loops == (Try.f9.params.toList ++ Rows.rackPlacesSpec.plain.varTypes Try.prog).any (Try.prog.loopsFrom ·))) = true := by kernel_rfl
theorem rackPlacesC17 : ((Rows.rackPlacesRow.wideKeys == (Try.f9.params.toList ++ Rows.rackPlacesSpec.plain.varTypes Try.prog ++ Try.f9.resultTypes.toList).any (Try.prog.wideKeysFrom ·))) = true := by kernel_rfl
theorem rackPlacesC18 : (Rows.rackPlacesSpec.vars.all (Try.prog.varReadable ·)) = true := by kernel_rfl
theorem rackPlacesC19 : (Try.f9.resultTypes.all (fun t => Try.prog.readableRec t && decide (t < Try.prog.types.size))) = true := by kernel_rfl
theorem rackPlacesC20 : ((Rows.rackPlacesRow.ifacesOut == Try.f9.resultTypes.toList.any (Try.prog.ifacesRec ·))) = true := by kernel_rfl
theorem rackPlacesC21 : ((Rows.rackPlacesRow.loopsOut == Try.f9.resultTypes.toList.any (Try.prog.loopsFrom ·))) = true := by kernel_rfl
theorem rackPlacesC22 : ((Rows.rackPlacesRow.plainKeys == Try.prog.plainKeys)) = true := by kernel_rfl
theorem rackPlacesC23 : (Rows.rackPlacesRow.shortTexts.isNone) = true := by kernel_rfl
theorem rackPlacesC26 : ((Rows.rackPlacesRow.lifted == Try.prog.liftsFinal)) = true := by kernel_rfl
theorem rackPlacesC27 : ((Try.prog.make == some Rows.rackPlacesRow.make)) = true := by kernel_rfl
theorem rackPlacesC28 : ((Rows.rackPlacesRow.kinds == (if Rows.rackPlacesRow.domain.isEmpty then [] else Try.f9.params.toList.map fun t => match Try.prog.underlying t with | some (.int k) => some k | _ => none))) = true := by kernel_rfl
theorem rackPlacesC29 : ((Rows.rackPlacesRow.pinned == Rows.rackPlacesRow.pinnedBy)) = true := by kernel_rfl
theorem rackPlacesC30 : ((Rows.rackPlacesRow.veiled == (Try.f9.params.toList ++ Rows.rackPlacesSpec.plain.varTypes Try.prog ++ Try.f9.resultTypes.toList).any (Try.prog.veiledRec ·))) = true := by kernel_rfl
theorem rackPlacesC31 : (Rows.rackPlacesRow.veiledFits Try.prog Try.f9.params.toList (Try.f9.params.toList ++ Rows.rackPlacesSpec.plain.varTypes Try.prog ++ Try.f9.resultTypes.toList)) = true := by kernel_rfl
set_option maxRecDepth 100000 in
theorem rackPlacesClosed : joinedFacts Try.prog 9 Try.f9 Rows.rackPlacesSpec Rows.rackPlacesRow = true :=
  joined_mk rackPlacesC0 clo1 clo2 rackPlacesC3 rackPlacesC4 rackPlacesC5 clo6 rackPlacesC7 clo8 rackPlacesC9 rackPlacesC10 rackPlacesC11 rackPlacesC12 rackPlacesC13 rackPlacesC14 rackPlacesC15 rackPlacesC16 rackPlacesC17 rackPlacesC18 rackPlacesC19 rackPlacesC20 rackPlacesC21 rackPlacesC22 rackPlacesC23 clo24 clo25 rackPlacesC26 rackPlacesC27 rackPlacesC28 rackPlacesC29 rackPlacesC30 rackPlacesC31
end Go.Proofs.Ytdpabnfcfakjeaa

