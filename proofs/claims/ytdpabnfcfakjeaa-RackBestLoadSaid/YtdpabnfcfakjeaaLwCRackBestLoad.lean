/- The closed facts of the row of the law RackBestLoad. -/
import Derived.Test.YtdpabnfcfakjeaaPoClo

namespace Go.Proofs.Ytdpabnfcfakjeaa
open Go Go.Ex Go.RowKit Go.WideShapes Go.ChangeShapes Go.ChangeAt
theorem zU : (Rows.rackBestLoadRow.wf (OpenSpec.ofChange Rows.rackBestLoadSpec)) = true := by kernel_rfl
theorem zV : (Try.f4.params.all (Try.prog.readableRec ·)) = true := by kernel_rfl
theorem zW : (namedTie Try.prog Rows.rackBestLoadRow.named Rows.rackBestLoadSpec.vars) = true := by kernel_rfl
theorem zX : ((Rows.rackBestLoadRow.stops == [])) = true := by kernel_rfl
theorem zY : ((Rows.rackBestLoadRow.knobs == [])) = true := by kernel_rfl
theorem zZ : ((Rows.rackBestLoadRow.inPlace == Try.prog.inPlace 4)) = true := by kernel_rfl
theorem vV : ((Rows.rackBestLoadRow.unfollowed == Try.prog.unfollowed 4)) = true := by kernel_rfl
theorem vW : ((Rows.rackBestLoadRow.recurses == Try.prog.recurses 4)) = true := by kernel_rfl
theorem vX : ((Rows.rackBestLoadRow.named == Try.prog.varsNamed 4)) = true := by kernel_rfl
theorem vY : ((Rows.rackBestLoadRow.maps == (Try.f4.params.toList ++ Rows.rackBestLoadSpec.plain.varTypes Try.prog).any (Try.prog.mapsRec ·))) = true := by kernel_rfl
theorem vZ : ((Rows.rackBestLoadRow.ifaces == (Try.f4.params.toList ++ Rows.rackBestLoadSpec.plain.varTypes Try.prog).any (Try.prog.ifacesRec ·))) = true := by kernel_rfl
theorem v3 : ((Rows.rackBestLoadRow.mapsOut == Try.prog.mapsAmong Try.f4.resultTypes.toList)) = true := by kernel_rfl
theorem v4 : ((Rows.rackBestLoadRow.loops == (Try.f4.params.toList ++ Rows.rackBestLoadSpec.plain.varTypes Try.prog).any (Try.prog.loopsFrom ·))) = true := by kernel_rfl
theorem v5 : ((Rows.rackBestLoadRow.wideKeys == (Try.f4.params.toList ++ Rows.rackBestLoadSpec.plain.varTypes Try.prog ++ Try.f4.resultTypes.toList).any (Try.prog.wideKeysFrom ·))) = true := by kernel_rfl
theorem v6 : (Rows.rackBestLoadSpec.vars.all (Try.prog.varReadable ·)) = true := by kernel_rfl
theorem v7 : (Try.f4.resultTypes.all (fun t => Try.prog.readableRec t && decide (t < Try.prog.types.size))) = true := by kernel_rfl
theorem v8 : ((Rows.rackBestLoadRow.ifacesOut == Try.f4.resultTypes.toList.any (Try.prog.ifacesRec ·))) = true := by kernel_rfl
theorem v9 : ((Rows.rackBestLoadRow.loopsOut == Try.f4.resultTypes.toList.any (Try.prog.loopsFrom ·))) = true := by kernel_rfl
theorem wA : ((Rows.rackBestLoadRow.plainKeys == Try.prog.plainKeys)) = true := by kernel_rfl
theorem wB : (Rows.rackBestLoadRow.shortTexts.isNone) = true := by kernel_rfl
theorem wC : ((Rows.rackBestLoadRow.lifted == Try.prog.liftsFinal)) = true := by kernel_rfl
theorem wD : ((Try.prog.make == some Rows.rackBestLoadRow.make)) = true := by kernel_rfl
theorem wE : ((Rows.rackBestLoadRow.kinds == (if Rows.rackBestLoadRow.domain.isEmpty then [] else Try.f4.params.toList.map fun t => match Try.prog.underlying t with | some (.int k) => some k | _ => none))) = true := by kernel_rfl
theorem wF : ((Rows.rackBestLoadRow.pinned == Rows.rackBestLoadRow.pinnedBy)) = true := by kernel_rfl
theorem wG : ((Rows.rackBestLoadRow.veiled == (Try.f4.params.toList ++ Rows.rackBestLoadSpec.plain.varTypes Try.prog ++ Try.f4.resultTypes.toList).any (Try.prog.veiledRec ·))) = true := by kernel_rfl
theorem wH : (Rows.rackBestLoadRow.veiledFits Try.prog Try.f4.params.toList (Try.f4.params.toList ++ Rows.rackBestLoadSpec.plain.varTypes Try.prog ++ Try.f4.resultTypes.toList)) = true := by kernel_rfl
set_option maxRecDepth 100000 in
theorem rackBestLoadClosed : joinedFacts Try.prog 4 Try.f4 Rows.rackBestLoadSpec Rows.rackBestLoadRow = true :=
 OE zU clo1 ZS zV zW zX ZT zY ZU zZ vV vW vX vY vZ v3 v4 v5 v6 v7 v8 v9 wA wB Y9 ZA wC wD wE wF wG wH
end Go.Proofs.Ytdpabnfcfakjeaa

