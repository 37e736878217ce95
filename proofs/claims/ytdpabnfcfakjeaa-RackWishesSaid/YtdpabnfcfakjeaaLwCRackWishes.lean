/- The closed facts of the row of the law RackWishes. -/
import Derived.Test.YtdpabnfcfakjeaaPoClo

namespace Go.Proofs.Ytdpabnfcfakjeaa
open Go Go.Ex Go.RowKit Go.WideShapes Go.ChangeShapes Go.ChangeAt
theorem rackWishesC0 : (Rows.rackWishesRow.wf (OpenSpec.ofChange Rows.rackWishesSpec)) = true := by kernel_rfl
theorem rackWishesC3 : (Try.f6.params.all (Try.prog.readableRec ·)) = true := by kernel_rfl
theorem rackWishesC4 : (namedTie Try.prog Rows.rackWishesRow.named Rows.rackWishesSpec.vars) = true := by kernel_rfl
theorem rackWishesC5 : ((Rows.rackWishesRow.stops == [])) = true := by kernel_rfl
theorem rackWishesC7 : ((Rows.rackWishesRow.knobs == [])) = true := by kernel_rfl
theorem rackWishesC9 : ((Rows.rackWishesRow.inPlace == Try.prog.inPlace 6)) = true := by kernel_rfl
theorem rackWishesC10 : ((Rows.rackWishesRow.unfollowed == Try.prog.unfollowed 6)) = true := by kernel_rfl
theorem rackWishesC11 : ((Rows.rackWishesRow.recurses == Try.prog.recurses 6)) = true := by kernel_rfl
theorem rackWishesC12 : ((Rows.rackWishesRow.named == Try.prog.varsNamed 6)) = true := by kernel_rfl
theorem rackWishesC13 : ((Rows.rackWishesRow.maps == (Try.f6.params.toList ++ Rows.rackWishesSpec.plain.varTypes Try.prog).any (Try.prog.mapsRec ·))) = true := by kernel_rfl
theorem rackWishesC14 : ((Rows.rackWishesRow.ifaces == (Try.f6.params.toList ++ Rows.rackWishesSpec.plain.varTypes Try.prog).any (Try.prog.ifacesRec ·))) = true := by kernel_rfl
theorem rackWishesC15 : ((Rows.rackWishesRow.mapsOut == Try.prog.mapsAmong Try.f6.resultTypes.toList)) = true := by kernel_rfl
theorem rackWishesC16 : ((Rows.rackWishesRow.loops == (Try.f6.params.toList ++ Rows.rackWishesSpec.plain.varTypes Try.prog).any (Try.prog.loopsFrom ·))) = true := by kernel_rfl
theorem rackWishesC17 : ((Rows.rackWishesRow.wideKeys == (Try.f6.params.toList ++ Rows.rackWishesSpec.plain.varTypes Try.prog ++ Try.f6.resultTypes.toList).any (Try.prog.wideKeysFrom ·))) = true := by kernel_rfl
theorem rackWishesC18 : (Rows.rackWishesSpec.vars.all (Try.prog.varReadable ·)) = true := by kernel_rfl
theorem rackWishesC19 : (Try.f6.resultTypes.all (fun t => Try.prog.readableRec t && decide (t < Try.prog.types.size))) = true := by kernel_rfl
theorem rackWishesC20 : ((Rows.rackWishesRow.ifacesOut == Try.f6.resultTypes.toList.any (Try.prog.ifacesRec ·))) = true := by kernel_rfl
theorem rackWishesC21 : ((Rows.rackWishesRow.loopsOut == Try.f6.resultTypes.toList.any (Try.prog.loopsFrom ·))) = true := by kernel_rfl
theorem rackWishesC22 : ((Rows.rackWishesRow.plainKeys == Try.prog.plainKeys)) = true := by kernel_rfl
theorem rackWishesC23 : (Rows.rackWishesRow.shortTexts.isNone) = true := by kernel_rfl
theorem rackWishesC26 : ((Rows.rackWishesRow.lifted == Try.prog.liftsFinal)) = true := by kernel_rfl
theorem rackWishesC27 : ((Try.prog.make == some Rows.rackWishesRow.make)) = true := by kernel_rfl
theorem rackWishesC28 : ((Rows.rackWishesRow.kinds == (if Rows.rackWishesRow.domain.isEmpty then [] else Try.f6.params.toList.map fun t => match Try.prog.underlying t with | some (.int k) => some k | _ => none))) = true := by kernel_rfl
theorem rackWishesC29 : ((Rows.rackWishesRow.pinned == Rows.rackWishesRow.pinnedBy)) = true := by kernel_rfl
theorem rackWishesC30 : ((Rows.rackWishesRow.veiled == (Try.f6.params.toList ++ Rows.rackWishesSpec.plain.varTypes Try.prog ++ Try.f6.resultTypes.toList).any (Try.prog.veiledRec ·))) = true := by kernel_rfl
theorem rackWishesC31 : (Rows.rackWishesRow.veiledFits Try.prog Try.f6.params.toList (Try.f6.params.toList ++ Rows.rackWishesSpec.plain.varTypes Try.prog ++ Try.f6.resultTypes.toList)) = true := by kernel_rfl
set_option maxRecDepth 100000 in
theorem rackWishesClosed : joinedFacts Try.prog 6 Try.f6 Rows.rackWishesSpec Rows.rackWishesRow = true :=
  joined_mk rackWishesC0 clo1 clo2 rackWishesC3 rackWishesC4 rackWishesC5 clo6 rackWishesC7 clo8 rackWishesC9 rackWishesC10 rackWishesC11 rackWishesC12 rackWishesC13 rackWishesC14 rackWishesC15 rackWishesC16 rackWishesC17 rackWishesC18 rackWishesC19 rackWishesC20 rackWishesC21 rackWishesC22 rackWishesC23 clo24 clo25 rackWishesC26 rackWishesC27 rackWishesC28 rackWishesC29 rackWishesC30 rackWishesC31
end Go.Proofs.Ytdpabnfcfakjeaa

