/- The closed facts of the row of the law TopJonesIntoMueller. -/
import Derived.Test.YtcggbkocpahkdaaPoClo
namespace Go.Proofs.Ytcggbkocpahkdaa
open Go Go.Ex Go.RowKit Go.WideShapes Go.ChangeShapes Go.ChangeAt
theorem topJonesIntoMuellerC0 : (Rows.topJonesIntoMuellerRow.wf (OpenSpec.ofChange Rows.topJonesIntoMuellerSpec)) = true := by kernel_rfl
theorem topJonesIntoMuellerC3 : (Try.f12.params.all (Try.prog.readableRec ·)) = true := by kernel_rfl
theorem topJonesIntoMuellerC4 : (namedTie Try.prog Rows.topJonesIntoMuellerRow.named Rows.topJonesIntoMuellerSpec.vars) = true := by kernel_rfl
theorem topJonesIntoMuellerC5 : ((Rows.topJonesIntoMuellerRow.stops == [])) = true := by kernel_rfl
theorem topJonesIntoMuellerC7 : ((Rows.topJonesIntoMuellerRow.knobs == [])) = true := by kernel_rfl
theorem topJonesIntoMuellerC9 : ((Rows.topJonesIntoMuellerRow.inPlace == Try.prog.inPlace 12)) = true := by kernel_rfl
theorem topJonesIntoMuellerC10 : ((Rows.topJonesIntoMuellerRow.unfollowed == Try.prog.unfollowed 12)) = true := by kernel_rfl
theorem topJonesIntoMuellerC11 : ((Rows.topJonesIntoMuellerRow.recurses == Try.prog.recurses 12)) = true := by kernel_rfl
theorem topJonesIntoMuellerC12 : ((Rows.topJonesIntoMuellerRow.named == Try.prog.varsNamed 12)) = true := by kernel_rfl
theorem topJonesIntoMuellerC13 : ((Rows.topJonesIntoMuellerRow.maps == (Try.f12.params.toList ++ Rows.topJonesIntoMuellerSpec.plain.varTypes Try.prog).any (Try.prog.mapsRec ·))) = true := by kernel_rfl
theorem topJonesIntoMuellerC14 : ((Rows.topJonesIntoMuellerRow.ifaces == (Try.f12.params.toList ++ Rows.topJonesIntoMuellerSpec.plain.varTypes Try.prog).any (Try.prog.ifacesRec ·))) = true := by kernel_rfl
theorem topJonesIntoMuellerC15 : ((Rows.topJonesIntoMuellerRow.mapsOut == Try.prog.mapsAmong Try.f12.resultTypes.toList)) = true := by kernel_rfl
theorem topJonesIntoMuellerC16 : ((Rows.topJonesIntoMuellerRow.loops == (Try.f12.params.toList ++ Rows.topJonesIntoMuellerSpec.plain.varTypes Try.prog).any (Try.prog.loopsFrom ·))) = true := by kernel_rfl
theorem topJonesIntoMuellerC17 : ((Rows.topJonesIntoMuellerRow.wideKeys == (Try.f12.params.toList ++ Rows.topJonesIntoMuellerSpec.plain.varTypes Try.prog ++ Try.f12.resultTypes.toList).any (Try.prog.wideKeysFrom ·))) = true := by kernel_rfl
theorem topJonesIntoMuellerC18 : (Rows.topJonesIntoMuellerSpec.vars.all (Try.prog.varReadable ·)) = true := by kernel_rfl
theorem topJonesIntoMuellerC19 : (Try.f12.resultTypes.all (fun t => Try.prog.readableRec t && decide (t < Try.prog.types.size))) = true := by kernel_rfl
theorem topJonesIntoMuellerC20 : ((Rows.topJonesIntoMuellerRow.ifacesOut == Try.f12.resultTypes.toList.any (Try.prog.ifacesRec ·))) = true := by kernel_rfl
theorem topJonesIntoMuellerC21 : ((Rows.topJonesIntoMuellerRow.loopsOut == Try.f12.resultTypes.toList.any (Try.prog.loopsFrom ·))) = true := by kernel_rfl
theorem topJonesIntoMuellerC22 : ((Rows.topJonesIntoMuellerRow.plainKeys == Try.prog.plainKeys)) = true := by kernel_rfl
theorem topJonesIntoMuellerC23 : (Rows.topJonesIntoMuellerRow.shortTexts.isNone) = true := by kernel_rfl
theorem topJonesIntoMuellerC26 : ((Rows.topJonesIntoMuellerRow.lifted == Try.prog.liftsFinal)) = true := by kernel_rfl
theorem topJonesIntoMuellerC27 : ((Try.prog.make == some Rows.topJonesIntoMuellerRow.make)) = true := by kernel_rfl
theorem topJonesIntoMuellerC28 : ((Rows.topJonesIntoMuellerRow.kinds == (if Rows.topJonesIntoMuellerRow.domain.isEmpty then [] else Try.f12.params.toList.map fun t => match Try.prog.underlying t with | some (.int k) => some k | _ => none))) = true := by kernel_rfl
theorem topJonesIntoMuellerC29 : ((Rows.topJonesIntoMuellerRow.pinned == Rows.topJonesIntoMuellerRow.pinnedBy)) = true := by kernel_rfl
theorem topJonesIntoMuellerC30 : ((Rows.topJonesIntoMuellerRow.veiled == (Try.f12.params.toList ++ Rows.topJonesIntoMuellerSpec.plain.varTypes Try.prog ++ Try.f12.resultTypes.toList).any (Try.prog.veiledRec ·))) = true := by kernel_rfl
theorem topJonesIntoMuellerC31 : (Rows.topJonesIntoMuellerRow.veiledFits Try.prog Try.f12.params.toList (Try.f12.params.toList ++ Rows.topJonesIntoMuellerSpec.plain.varTypes Try.prog ++ Try.f12.resultTypes.toList)) = true := by kernel_rfl
set_option maxRecDepth 100000 in
theorem topJonesIntoMuellerClosed : joinedFacts Try.prog 12 Try.f12 Rows.topJonesIntoMuellerSpec Rows.topJonesIntoMuellerRow = true :=
  joined_mk topJonesIntoMuellerC0 clo1 clo2 topJonesIntoMuellerC3 topJonesIntoMuellerC4 topJonesIntoMuellerC5 clo6 topJonesIntoMuellerC7 clo8 topJonesIntoMuellerC9 topJonesIntoMuellerC10 topJonesIntoMuellerC11 topJonesIntoMuellerC12 topJonesIntoMuellerC13 topJonesIntoMuellerC14 topJonesIntoMuellerC15 topJonesIntoMuellerC16 topJonesIntoMuellerC17 topJonesIntoMuellerC18 topJonesIntoMuellerC19 topJonesIntoMuellerC20 topJonesIntoMuellerC21 topJonesIntoMuellerC22 topJonesIntoMuellerC23 clo24 clo25 topJonesIntoMuellerC26 topJonesIntoMuellerC27 topJonesIntoMuellerC28 topJonesIntoMuellerC29 topJonesIntoMuellerC30 topJonesIntoMuellerC31
end Go.Proofs.Ytcggbkocpahkdaa
