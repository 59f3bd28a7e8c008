/-
  The closed facts of the row of cellaret/cellaretlaw21.ConnRoom and of its card, each by the kernel. Nothing is claimed here beyond them.
-/
import Derived.Test.YtgdjmcfdopbnkaaGreatDoorCards
import Derived.Test.YtgdjmcfdopbnkaaGreatDoorWorld
import Derived.JoinedOf
import Derived.SevenTiedAt
import Derived.KernelRfl
namespace Go.Proofs.YtgdjmcfdopbnkaaGreatDoor
open Go
set_option maxRecDepth 100000

theorem fc_0 : (Rows.connRoomRow.wf (OpenSpec.ofChange Rows.connRoomSpec)) = true := by kernel_rfl
theorem fc_1 : (laidOutB Tryz.prog) = true := by kernel_rfl
theorem fc_2 : (mapsRowed Tryz.prog) = true := by kernel_rfl
theorem fc_3 : (Tryz.f7.params.all (Tryz.prog.readableRec ·)) = true := by kernel_rfl
theorem fc_4 : (namedTie Tryz.prog Rows.connRoomRow.named Rows.connRoomSpec.vars) = true := by kernel_rfl
theorem fc_5 : ((Rows.connRoomRow.stops == [])) = true := by kernel_rfl
theorem fc_6 : ((Tryz.prog.stops == [])) = true := by kernel_rfl
theorem fc_7 : ((Rows.connRoomRow.knobs == [])) = true := by kernel_rfl
theorem fc_8 : ((Tryz.prog.stopKnobs == [])) = true := by kernel_rfl
theorem fc_9 : ((Rows.connRoomRow.inPlace == Tryz.prog.inPlace 7)) = true := by kernel_rfl
theorem fc_10 : ((Rows.connRoomRow.unfollowed == Tryz.prog.unfollowed 7)) = true := by kernel_rfl
theorem fc_11 : ((Rows.connRoomRow.recurses == Tryz.prog.recurses 7)) = true := by kernel_rfl
theorem fc_12 : ((Rows.connRoomRow.named == Tryz.prog.varsNamed 7)) = true := by kernel_rfl
theorem fc_13 : ((Rows.connRoomRow.maps == (Tryz.f7.params.toList ++ Rows.connRoomSpec.plain.varTypes Tryz.prog).any (Tryz.prog.mapsRec ·))) = true := by kernel_rfl
theorem fc_14 : ((Rows.connRoomRow.ifaces == (Tryz.f7.params.toList ++ Rows.connRoomSpec.plain.varTypes Tryz.prog).any (Tryz.prog.ifacesRec ·))) = true := by kernel_rfl
theorem fc_15 : ((Rows.connRoomRow.mapsOut == Tryz.prog.mapsAmong Tryz.f7.resultTypes.toList)) = true := by kernel_rfl
theorem fc_16 : ((Rows.connRoomRow.loops == (Tryz.f7.params.toList ++ Rows.connRoomSpec.plain.varTypes Tryz.prog).any (Tryz.prog.loopsFrom ·))) = true := by kernel_rfl
theorem fc_17 : ((Rows.connRoomRow.wideKeys == (Tryz.f7.params.toList ++ Rows.connRoomSpec.plain.varTypes Tryz.prog ++ Tryz.f7.resultTypes.toList).any (Tryz.prog.wideKeysFrom ·))) = true := by kernel_rfl
theorem fc_18 : (Rows.connRoomSpec.vars.all (Tryz.prog.varReadable ·)) = true := by kernel_rfl
theorem fc_19 : (Tryz.f7.resultTypes.all (fun t => Tryz.prog.readableRec t && decide (t < Tryz.prog.types.size))) = true := by kernel_rfl
theorem fc_20 : ((Rows.connRoomRow.ifacesOut == Tryz.f7.resultTypes.toList.any (Tryz.prog.ifacesRec ·))) = true := by kernel_rfl
theorem fc_21 : ((Rows.connRoomRow.loopsOut == Tryz.f7.resultTypes.toList.any (Tryz.prog.loopsFrom ·))) = true := by kernel_rfl
theorem fc_22 : ((Rows.connRoomRow.plainKeys == Tryz.prog.plainKeys)) = true := by kernel_rfl
theorem fc_23 : (Rows.connRoomRow.shortTexts.isNone) = true := by kernel_rfl
theorem fc_24 : (Tryz.prog.stopsHeard) = true := by kernel_rfl
theorem fc_25 : (Tryz.prog.mayEnter) = true := by kernel_rfl
theorem fc_26 : ((Rows.connRoomRow.lifted == Tryz.prog.liftsFinal)) = true := by kernel_rfl
theorem fc_27 : ((Tryz.prog.make == some Rows.connRoomRow.make)) = true := by kernel_rfl
theorem fc_28 : ((Rows.connRoomRow.kinds == (if Rows.connRoomRow.domain.isEmpty then [] else Tryz.f7.params.toList.map fun t => match Tryz.prog.underlying t with | some (.int k) => some k | _ => none))) = true := by kernel_rfl
theorem fc_29 : ((Rows.connRoomRow.pinned == Rows.connRoomRow.pinnedBy)) = true := by kernel_rfl
theorem fc_30 : ((Rows.connRoomRow.veiled == (Tryz.f7.params.toList ++ Rows.connRoomSpec.plain.varTypes Tryz.prog ++ Tryz.f7.resultTypes.toList).any (Tryz.prog.veiledRec ·))) = true := by kernel_rfl
theorem fc_31 : (Rows.connRoomRow.veiledFits Tryz.prog Tryz.f7.params.toList (Tryz.f7.params.toList ++ Rows.connRoomSpec.plain.varTypes Tryz.prog ++ Tryz.f7.resultTypes.toList)) = true := by kernel_rfl
theorem band {a b : Bool} (h : a = true) (k : b = true) : (a && b) = true := by rw [h, k]; rfl
theorem fc_all : joinedFacts Tryz.prog 7 Tryz.f7 Rows.connRoomSpec Rows.connRoomRow = true :=
  band (band (band (band (band (band (band (band (band (band (band (band (band (band (band (band (band (band (band (band (band (band (band (band (band (band (band (band (band (band (band (fc_0) fc_1) fc_2) fc_3) fc_4) fc_5) fc_6) fc_7) fc_8) fc_9) fc_10) fc_11) fc_12) fc_13) fc_14) fc_15) fc_16) fc_17) fc_18) fc_19) fc_20) fc_21) fc_22) fc_23) fc_24) fc_25) fc_26) fc_27) fc_28) fc_29) fc_30) fc_31
theorem fc_named : Tryz.prog.funcNamed "cellaret/cellaretlaw21.ConnRoom" = some 7 := by kernel_rfl
theorem fc_inst : Tryz.f7.isInstance Tryz.prog Rows.connRoomRow.origin Rows.connRoomRow.targs := of_decide_eq_true (by kernel_rfl)
theorem fc_wrap : Tryz.f7.isWrapper Tryz.prog Rows.connRoomRow.wrapper Rows.connRoomRow.mainSum := by unfold Func.isWrapper; first | (rw [if_pos (by decide +kernel)]; kernel_rfl) | (rw [if_neg (by decide +kernel)]; exact ⟨rfl, rfl⟩)
theorem fc_text : Rows.connRoomRow.wfByText (OpenSpec.ofChange Rows.connRoomSpec) = true := by kernel_rfl
theorem fc_main : Tryz.pinned.checked.prog.mainIs = some (Rows.connRoomCard.stood.harness.1, Rows.connRoomCard.stood.harness.2.toList) := by kernel_rfl
theorem fc_looks : true = Tryz.prog.looks [] := by kernel_rfl
theorem fc_goes : false = Rows.connRoomRow.goesBy Tryz.prog := goesBy_false noGo _ rfl
theorem fc_stand (t : TypeId) (h : t ∈ Tryz.f7.params.toList) : Tryz.prog.wantsStandIn t = false := by
  have : (Tryz.f7.params.toList.all fun u => !Tryz.prog.wantsStandIn u) = true := by kernel_rfl
  simpa using List.all_eq_true.1 this t h
end Go.Proofs.YtgdjmcfdopbnkaaGreatDoor
