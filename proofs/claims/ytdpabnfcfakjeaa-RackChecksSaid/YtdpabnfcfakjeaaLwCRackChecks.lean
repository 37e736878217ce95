/- The closed facts of the row of the law RackChecks. -/
import Derived.Test.YtdpabnfcfakjeaaPoClo

namespace Go.Proofs.Ytdpabnfcfakjeaa
open Go Go.Ex Go.RowKit Go.WideShapes Go.ChangeShapes Go.ChangeAt
theorem rackChecksC0 : (Rows.rackChecksRow.wf (OpenSpec.ofChange Rows.rackChecksSpec)) = true := by kernel_rfl
theorem rackChecksC3 : (Try.f7.params.all (Try.prog.readableRec ·)) = true := by kernel_rfl
theorem rackChecksC4 : (namedTie Try.prog Rows.rackChecksRow.named Rows.rackChecksSpec.vars) = true := by kernel_rfl
theorem rackChecksC5 : ((Rows.rackChecksRow.stops == [])) = true := by kernel_rfl
theorem rackChecksC7 : ((Rows.rackChecksRow.knobs == [])) = true := by kernel_rfl
theorem rackChecksC9 : ((Rows.rackChecksRow.inPlace == Try.prog.inPlace 7)) = true := by kernel_rfl
theorem rackChecksC10 : ((Rows.rackChecksRow.unfollowed == Try.prog.unfollowed 7)) = true := by kernel_rfl
theorem rackChecksC11 : ((Rows.rackChecksRow.recurses == Try.prog.recurses 7)) = true := by kernel_rfl
theorem rackChecksC12 : ((Rows.rackChecksRow.named == Try.prog.varsNamed 7)) = true := by kernel_rfl
theorem rackChecksC13 : ((Rows.rackChecksRow.maps == (Try.f7.params.toList ++ Rows.rackChecksSpec.plain.varTypes Try.prog).any (Try.prog.mapsRec ·))) = true := by kernel_rfl
theorem rackChecksC14 : ((Rows.rackChecksRow.ifaces == (Try.f7.params.toList ++ Rows.rackChecksSpec.plain.varTypes Try.prog).any (Try.prog.ifacesRec ·))) = true := by kernel_rfl
theorem rackChecksC15 : ((Rows.rackChecksRow.mapsOut == Try.prog.mapsAmong Try.f7.resultTypes.toList)) = true := by kernel_rfl
theorem rackChecksC16 : ((Rows.rackChecksRow.loops == (Try.f7.params.toList ++ Rows.rackChecksSpec.plain.varTypes Try.prog).any (Try.prog.loopsFrom ·))) = true := by kernel_rfl
theorem rackChecksC17 : ((Rows.rackChecksRow.wideKeys == (Try.f7.params.toList ++ Rows.rackChecksSpec.plain.varTypes Try.prog ++ Try.f7.resultTypes.toList).any (Try.prog.wideKeysFrom ·))) = true := by kernel_rfl
theorem rackChecksC18 : (Rows.rackChecksSpec.vars.all (Try.prog.varReadable ·)) = true := by kernel_rfl
theorem rackChecksC19 : (Try.f7.resultTypes.all (fun t => Try.prog.readableRec t && decide (t < Try.prog.types.size))) = true := by kernel_rfl
theorem rackChecksC20 : ((Rows.rackChecksRow.ifacesOut == Try.f7.resultTypes.toList.any (Try.prog.ifacesRec ·))) = true := by kernel_rfl
theorem rackChecksC21 : ((Rows.rackChecksRow.loopsOut == Try.f7.resultTypes.toList.any (Try.prog.loopsFrom ·))) = true := by kernel_rfl
theorem rackChecksC22 : ((Rows.rackChecksRow.plainKeys == Try.prog.plainKeys)) = true := by kernel_rfl
theorem rackChecksC23 : (Rows.rackChecksRow.shortTexts.isNone) = true := by kernel_rfl
theorem rackChecksC26 : ((Rows.rackChecksRow.lifted == Try.prog.liftsFinal)) = true := by kernel_rfl
theorem rackChecksC27 : ((Try.prog.make == some Rows.rackChecksRow.make)) = true := by kernel_rfl
theorem rackChecksC28 : ((Rows.rackChecksRow.kinds == (if Rows.rackChecksRow.domain.isEmpty then [] else Try.f7.params.toList.map fun t => match Try.prog.underlying t with | some (.int k) => some k | _ => none))) = true := by kernel_rfl
theorem rackChecksC29 : ((Rows.rackChecksRow.pinned == Rows.rackChecksRow.pinnedBy)) = true := by kernel_rfl
theorem rackChecksC30 : ((Rows.rackChecksRow.veiled == (Try.f7.params.toList ++ Rows.rackChecksSpec.plain.varTypes Try.prog ++ Try.f7.resultTypes.toList).any (Try.prog.veiledRec ·))) = true := by kernel_rfl
theorem rackChecksC31 : (Rows.rackChecksRow.veiledFits Try.prog Try.f7.params.toList (Try.f7.params.toList ++ Rows.rackChecksSpec.plain.varTypes Try.prog ++ Try.f7.resultTypes.toList)) = true := by kernel_rfl
set_option maxRecDepth 100000 in
theorem rackChecksClosed : joinedFacts Try.prog 7 Try.f7 Rows.rackChecksSpec Rows.rackChecksRow = true :=
  joined_mk rackChecksC0 clo1 clo2 rackChecksC3 rackChecksC4 rackChecksC5 clo6 rackChecksC7 clo8 rackChecksC9 rackChecksC10 rackChecksC11 rackChecksC12 rackChecksC13 rackChecksC14 rackChecksC15 rackChecksC16 rackChecksC17 rackChecksC18 rackChecksC19 rackChecksC20 rackChecksC21 rackChecksC22 rackChecksC23 clo24 clo25 rackChecksC26 rackChecksC27 rackChecksC28 rackChecksC29 rackChecksC30 rackChecksC31
end Go.Proofs.Ytdpabnfcfakjeaa

