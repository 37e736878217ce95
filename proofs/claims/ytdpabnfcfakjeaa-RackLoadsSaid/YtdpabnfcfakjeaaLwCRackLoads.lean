/- The closed facts of the row of the law RackLoads. -/
import Derived.Test.YtdpabnfcfakjeaaPoClo

namespace Go.Proofs.Ytdpabnfcfakjeaa
open Go Go.Ex Go.RowKit Go.WideShapes Go.ChangeShapes Go.ChangeAt
theorem rackLoadsC0 : (Rows.rackLoadsRow.wf (OpenSpec.ofChange Rows.rackLoadsSpec)) = true := by kernel_rfl
theorem rackLoadsC3 : (Try.f13.params.all (Try.prog.readableRec ·)) = true := by kernel_rfl
theorem rackLoadsC4 : (namedTie Try.prog Rows.rackLoadsRow.named Rows.rackLoadsSpec.vars) = true := by kernel_rfl
theorem rackLoadsC5 : ((Rows.rackLoadsRow.stops == [])) = true := by kernel_rfl
theorem rackLoadsC7 : ((Rows.rackLoadsRow.knobs == [])) = true := by kernel_rfl
theorem rackLoadsC9 : ((Rows.rackLoadsRow.inPlace == Try.prog.inPlace 13)) = true := by kernel_rfl
theorem rackLoadsC10 : ((Rows.rackLoadsRow.unfollowed == Try.prog.unfollowed 13)) = true := by kernel_rfl
theorem rackLoadsC11 : ((Rows.rackLoadsRow.recurses == Try.prog.recurses 13)) = true := by kernel_rfl
theorem rackLoadsC12 : ((Rows.rackLoadsRow.named == Try.prog.varsNamed 13)) = true := by kernel_rfl
theorem rackLoadsC13 : ((Rows.rackLoadsRow.maps == (Try.f13.params.toList ++ Rows.rackLoadsSpec.plain.varTypes Try.prog).any (Try.prog.mapsRec ·))) = true := by kernel_rfl
theorem rackLoadsC14 : ((Rows.rackLoadsRow.ifaces == (Try.f13.params.toList ++ Rows.rackLoadsSpec.plain.varTypes Try.prog).any (Try.prog.ifacesRec ·))) = true := by kernel_rfl
theorem rackLoadsC15 : ((Rows.rackLoadsRow.mapsOut == Try.prog.mapsAmong Try.f13.resultTypes.toList)) = true := by kernel_rfl
theorem rackLoadsC16 : ((Rows.rackLoadsRow.loops == (Try.f13.params.toList ++ Rows.rackLoadsSpec.plain.varTypes Try.prog).any (Try.prog.loopsFrom ·))) = true := by kernel_rfl
theorem rackLoadsC17 : ((Rows.rackLoadsRow.wideKeys == (Try.f13.params.toList ++ Rows.rackLoadsSpec.plain.varTypes Try.prog ++ Try.f13.resultTypes.toList).any (Try.prog.wideKeysFrom ·))) = true := by kernel_rfl
theorem rackLoadsC18 : (Rows.rackLoadsSpec.vars.all (Try.prog.varReadable ·)) = true := by kernel_rfl
theorem rackLoadsC19 : (Try.f13.resultTypes.all (fun t => Try.prog.readableRec t && decide (t < Try.prog.types.size))) = true := by kernel_rfl
theorem rackLoadsC20 : ((Rows.rackLoadsRow.ifacesOut == Try.f13.resultTypes.toList.any (Try.prog.ifacesRec ·))) = true := by kernel_rfl
theorem rackLoadsC21 : ((Rows.rackLoadsRow.loopsOut == Try.f13.resultTypes.toList.any (Try.prog.loopsFrom ·))) = true := by kernel_rfl
theorem rackLoadsC22 : ((Rows.rackLoadsRow.plainKeys == Try.prog.plainKeys)) = true := by kernel_rfl
theorem rackLoadsC23 : (Rows.rackLoadsRow.shortTexts.isNone) = true := by kernel_rfl
theorem rackLoadsC26 : ((Rows.rackLoadsRow.lifted == Try.prog.liftsFinal)) = true := by kernel_rfl
theorem rackLoadsC27 : ((Try.prog.make == some Rows.rackLoadsRow.make)) = true := by kernel_rfl
theorem rackLoadsC28 : ((Rows.rackLoadsRow.kinds == (if Rows.rackLoadsRow.domain.isEmpty then [] else Try.f13.params.toList.map fun t => match Try.prog.underlying t with | some (.int k) => some k | _ => none))) = true := by kernel_rfl
theorem rackLoadsC29 : ((Rows.rackLoadsRow.pinned == Rows.rackLoadsRow.pinnedBy)) = true := by kernel_rfl
theorem rackLoadsC30 : ((Rows.rackLoadsRow.veiled == (Try.f13.params.toList ++ Rows.rackLoadsSpec.plain.varTypes Try.prog ++ Try.f13.resultTypes.toList).any (Try.prog.veiledRec ·))) = true := by kernel_rfl
theorem rackLoadsC31 : (Rows.rackLoadsRow.veiledFits Try.prog Try.f13.params.toList (Try.f13.params.toList ++ Rows.rackLoadsSpec.plain.varTypes Try.prog ++ Try.f13.resultTypes.toList)) = true := by kernel_rfl
set_option maxRecDepth 100000 in
theorem rackLoadsClosed : joinedFacts Try.prog 13 Try.f13 Rows.rackLoadsSpec Rows.rackLoadsRow = true :=
  joined_mk rackLoadsC0 clo1 clo2 rackLoadsC3 rackLoadsC4 rackLoadsC5 clo6 rackLoadsC7 clo8 rackLoadsC9 rackLoadsC10 rackLoadsC11 rackLoadsC12 rackLoadsC13 rackLoadsC14 rackLoadsC15 rackLoadsC16 rackLoadsC17 rackLoadsC18 rackLoadsC19 rackLoadsC20 rackLoadsC21 rackLoadsC22 rackLoadsC23 clo24 clo25 rackLoadsC26 rackLoadsC27 rackLoadsC28 rackLoadsC29 rackLoadsC30 rackLoadsC31
end Go.Proofs.Ytdpabnfcfakjeaa

