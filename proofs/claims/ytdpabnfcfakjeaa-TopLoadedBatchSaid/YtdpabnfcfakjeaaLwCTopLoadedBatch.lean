/- The closed facts of the row of the law TopLoadedBatch. -/
import Derived.Test.YtdpabnfcfakjeaaPoClo
namespace Go.Proofs.Ytdpabnfcfakjeaa
open Go Go.Ex Go.RowKit Go.WideShapes Go.ChangeShapes Go.ChangeAt
theorem yT:(Rows.topLoadedBatchRow.wf (OpenSpec.ofChange Rows.topLoadedBatchSpec))=true:=by kernel_rfl
theorem yU:(Try.f17.params.all (Try.prog.readableRec ·))=true:=by kernel_rfl
theorem yV:(namedTie Try.prog Rows.topLoadedBatchRow.named Rows.topLoadedBatchSpec.vars)=true:=by kernel_rfl
theorem yW:((Rows.topLoadedBatchRow.stops==[]))=true:=by kernel_rfl
theorem yX:((Rows.topLoadedBatchRow.knobs==[]))=true:=by kernel_rfl
theorem yY:((Rows.topLoadedBatchRow.inPlace==Try.prog.inPlace 17))=true:=by kernel_rfl
theorem wA:((Rows.topLoadedBatchRow.unfollowed==Try.prog.unfollowed 17))=true:=by kernel_rfl
theorem wB:((Rows.topLoadedBatchRow.recurses==Try.prog.recurses 17))=true:=by kernel_rfl
theorem wC:((Rows.topLoadedBatchRow.named==Try.prog.varsNamed 17))=true:=by kernel_rfl
theorem wD:((Rows.topLoadedBatchRow.maps==(Try.f17.params.toList++Rows.topLoadedBatchSpec.plain.varTypes Try.prog).any (Try.prog.mapsRec ·)))=true:=by kernel_rfl
theorem wE:((Rows.topLoadedBatchRow.ifaces==(Try.f17.params.toList++Rows.topLoadedBatchSpec.plain.varTypes Try.prog).any (Try.prog.ifacesRec ·)))=true:=by kernel_rfl
theorem wF:((Rows.topLoadedBatchRow.mapsOut==Try.prog.mapsAmong Try.f17.resultTypes.toList))=true:=by kernel_rfl
theorem wG:((Rows.topLoadedBatchRow.loops==(Try.f17.params.toList++Rows.topLoadedBatchSpec.plain.varTypes Try.prog).any (Try.prog.loopsFrom ·)))=true:=by kernel_rfl
theorem wH:((Rows.topLoadedBatchRow.wideKeys==(Try.f17.params.toList++Rows.topLoadedBatchSpec.plain.varTypes Try.prog++Try.f17.resultTypes.toList).any (Try.prog.wideKeysFrom ·)))=true:=by kernel_rfl
theorem wI:(Rows.topLoadedBatchSpec.vars.all (Try.prog.varReadable ·))=true:=by kernel_rfl
theorem wJ:(Try.f17.resultTypes.all (fun t=>Try.prog.readableRec t&&decide (t<Try.prog.types.size)))=true:=by kernel_rfl
theorem wK:((Rows.topLoadedBatchRow.ifacesOut==Try.f17.resultTypes.toList.any (Try.prog.ifacesRec ·)))=true:=by kernel_rfl
theorem wL:((Rows.topLoadedBatchRow.loopsOut==Try.f17.resultTypes.toList.any (Try.prog.loopsFrom ·)))=true:=by kernel_rfl
theorem wM:((Rows.topLoadedBatchRow.plainKeys==Try.prog.plainKeys))=true:=by kernel_rfl
theorem wN:(Rows.topLoadedBatchRow.shortTexts.isNone)=true:=by kernel_rfl
theorem wO:((Rows.topLoadedBatchRow.lifted==Try.prog.liftsFinal))=true:=by kernel_rfl
theorem wP:((Try.prog.make==some Rows.topLoadedBatchRow.make))=true:=by kernel_rfl
theorem wQ:((Rows.topLoadedBatchRow.kinds==(if Rows.topLoadedBatchRow.domain.isEmpty then [] else Try.f17.params.toList.map fun t=>match Try.prog.underlying t with | some (.int k)=>some k | _=>none)))=true:=by kernel_rfl
theorem wR:((Rows.topLoadedBatchRow.pinned==Rows.topLoadedBatchRow.pinnedBy))=true:=by kernel_rfl
theorem wS:((Rows.topLoadedBatchRow.veiled==(Try.f17.params.toList++Rows.topLoadedBatchSpec.plain.varTypes Try.prog++Try.f17.resultTypes.toList).any (Try.prog.veiledRec ·)))=true:=by kernel_rfl
theorem wT:(Rows.topLoadedBatchRow.veiledFits Try.prog Try.f17.params.toList (Try.f17.params.toList++Rows.topLoadedBatchSpec.plain.varTypes Try.prog++Try.f17.resultTypes.toList))=true:=by kernel_rfl
set_option maxRecDepth 100000 in
theorem topLoadedBatchClosed:joinedFacts Try.prog 17 Try.f17 Rows.topLoadedBatchSpec Rows.topLoadedBatchRow=true:=
 U0 yT clo1 afb yU yV yW afc yX afd yY wA wB wC wD wE wF wG wH wI wJ wK wL wM wN aeR aeS wO wP wQ wR wS wT
end Go.Proofs.Ytdpabnfcfakjeaa
