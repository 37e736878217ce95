/- The closed facts of the row of the law RackMasks. -/
import Derived.Test.YtdpabnfcfakjeaaPoClo

namespace Go.Proofs.Ytdpabnfcfakjeaa
open Go Go.Ex Go.RowKit Go.WideShapes Go.ChangeShapes Go.ChangeAt
theorem rackMasksC0 : (Rows.rackMasksRow.wf (OpenSpec.ofChange Rows.rackMasksSpec)) = true := by kernel_rfl
theorem rackMasksC3 : (Try.f11.params.all (Try.prog.readableRec ·)) = true := by kernel_rfl
theorem rackMasksC4 : (namedTie Try.prog Rows.rackMasksRow.named Rows.rackMasksSpec.vars) = true := by kernel_rfl
theorem rackMasksC5 : ((Rows.rackMasksRow.stops == [])) = true := by kernel_rfl
theorem rackMasksC7 : ((Rows.rackMasksRow.knobs == [])) = true := by kernel_rfl
theorem rackMasksC9 : ((Rows.rackMasksRow.inPlace == Try.prog.inPlace 11)) = true := by kernel_rfl
theorem rackMasksC10 : ((Rows.rackMasksRow.unfollowed == Try.prog.unfollowed 11)) = true := by kernel_rfl
theorem rackMasksC11 : ((Rows.rackMasksRow.recurses == Try.prog.recurses 11)) = true := by kernel_rfl
theorem rackMasksC12 : ((Rows.rackMasksRow.named == Try.prog.varsNamed 11)) = true := by kernel_rfl
theorem rackMasksC13 : ((Rows.rackMasksRow.maps == (Try.f11.params.toList ++ Rows.rackMasksSpec.plain.varTypes Try.prog).any (Try.prog.mapsRec ·))) = true := by kernel_rfl
theorem rackMasksC14 : ((Rows.rackMasksRow.ifaces == (Try.f11.params.toList ++ Rows.rackMasksSpec.plain.varTypes Try.prog).any (Try.prog.ifacesRec ·))) = true := by kernel_rfl
theorem rackMasksC15 : ((Rows.rackMasksRow.mapsOut == Try.prog.mapsAmong Try.f11.resultTypes.toList)) = true := by kernel_rfl
theorem rackMasksC16 : ((Rows.rackMasksRow.loops == (Try.f11.params.toList ++ Rows.rackMasksSpec.plain.varTypes Try.prog).any (Try.prog.loopsFrom ·))) = true := by kernel_rfl
theorem rackMasksC17 : ((Rows.rackMasksRow.wideKeys == (Try.f11.params.toList ++ Rows.rackMasksSpec.plain.varTypes Try.prog ++ Try.f11.resultTypes.toList).any (Try.prog.wideKeysFrom ·))) = true := by kernel_rfl
theorem rackMasksC18 : (Rows.rackMasksSpec.vars.all (Try.prog.varReadable ·)) = true := by kernel_rfl
theorem rackMasksC19 : (Try.f11.resultTypes.all (fun t => Try.prog.readableRec t && decide (t < Try.prog.types.size))) = true := by kernel_rfl
theorem rackMasksC20 : ((Rows.rackMasksRow.ifacesOut == Try.f11.resultTypes.toList.any (Try.prog.ifacesRec ·))) = true := by kernel_rfl
theorem rackMasksC21 : ((Rows.rackMasksRow.loopsOut == Try.f11.resultTypes.toList.any (Try.prog.loopsFrom ·))) = true := by kernel_rfl
theorem rackMasksC22 : ((Rows.rackMasksRow.plainKeys == Try.prog.plainKeys)) = true := by kernel_rfl
theorem rackMasksC23 : (Rows.rackMasksRow.shortTexts.isNone) = true := by kernel_rfl
theorem rackMasksC26 : ((Rows.rackMasksRow.lifted == Try.prog.liftsFinal)) = true := by kernel_rfl
theorem rackMasksC27 : ((Try.prog.make == some Rows.rackMasksRow.make)) = true := by kernel_rfl
theorem rackMasksC28 : ((Rows.rackMasksRow.kinds == (if Rows.rackMasksRow.domain.isEmpty then [] else Try.f11.params.toList.map fun t => match Try.prog.underlying t with | some (.int k) => some k | _ => none))) = true := by kernel_rfl
theorem rackMasksC29 : ((Rows.rackMasksRow.pinned == Rows.rackMasksRow.pinnedBy)) = true := by kernel_rfl
theorem rackMasksC30 : ((Rows.rackMasksRow.veiled == (Try.f11.params.toList ++ Rows.rackMasksSpec.plain.varTypes Try.prog ++ Try.f11.resultTypes.toList).any (Try.prog.veiledRec ·))) = true := by kernel_rfl
theorem rackMasksC31 : (Rows.rackMasksRow.veiledFits Try.prog Try.f11.params.toList (Try.f11.params.toList ++ Rows.rackMasksSpec.plain.varTypes Try.prog ++ Try.f11.resultTypes.toList)) = true := by kernel_rfl
set_option maxRecDepth 100000 in
theorem rackMasksClosed : joinedFacts Try.prog 11 Try.f11 Rows.rackMasksSpec Rows.rackMasksRow = true :=
  joined_mk rackMasksC0 clo1 clo2 rackMasksC3 rackMasksC4 rackMasksC5 clo6 rackMasksC7 clo8 rackMasksC9 rackMasksC10 rackMasksC11 rackMasksC12 rackMasksC13 rackMasksC14 rackMasksC15 rackMasksC16 rackMasksC17 rackMasksC18 rackMasksC19 rackMasksC20 rackMasksC21 rackMasksC22 rackMasksC23 clo24 clo25 rackMasksC26 rackMasksC27 rackMasksC28 rackMasksC29 rackMasksC30 rackMasksC31
end Go.Proofs.Ytdpabnfcfakjeaa

