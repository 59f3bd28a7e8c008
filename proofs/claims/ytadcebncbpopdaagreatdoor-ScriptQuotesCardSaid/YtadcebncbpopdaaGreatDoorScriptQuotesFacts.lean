/-
  The closed facts of the row of cellaret/cellaretlaw25.ScriptQuotes and of its card, each by the kernel. Nothing is claimed here beyond them.
-/
import Derived.Test.YtadcebncbpopdaaGreatDoorCards
import Derived.Test.YtadcebncbpopdaaGreatDoorWorld
import Derived.JoinedOf
import Derived.SevenTiedAt
import Derived.KernelRfl
namespace Go.Proofs.YtadcebncbpopdaaGreatDoor
open Go
set_option maxRecDepth 100000

theorem fc_0 : (Rows.scriptQuotesRow.wf (OpenSpec.ofChange Rows.scriptQuotesSpec)) = true := by kernel_rfl
theorem fc_1 : (laidOutB Tryz.prog) = true := by kernel_rfl
theorem fc_2 : (mapsRowed Tryz.prog) = true := by kernel_rfl
theorem fc_3 : (Tryz.f4.params.all (Tryz.prog.readableRec ·)) = true := by kernel_rfl
theorem fc_4 : (namedTie Tryz.prog Rows.scriptQuotesRow.named Rows.scriptQuotesSpec.vars) = true := by kernel_rfl
theorem fc_5 : ((Rows.scriptQuotesRow.stops == [])) = true := by kernel_rfl
theorem fc_6 : ((Tryz.prog.stops == [])) = true := by kernel_rfl
theorem fc_7 : ((Rows.scriptQuotesRow.knobs == [])) = true := by kernel_rfl
theorem fc_8 : ((Tryz.prog.stopKnobs == [])) = true := by kernel_rfl
theorem fc_9 : ((Rows.scriptQuotesRow.inPlace == Tryz.prog.inPlace 4)) = true := by kernel_rfl
theorem fc_10 : ((Rows.scriptQuotesRow.unfollowed == Tryz.prog.unfollowed 4)) = true := by kernel_rfl
theorem fc_11 : ((Rows.scriptQuotesRow.recurses == Tryz.prog.recurses 4)) = true := by kernel_rfl
theorem fc_12 : ((Rows.scriptQuotesRow.named == Tryz.prog.varsNamed 4)) = true := by kernel_rfl
theorem fc_13 : ((Rows.scriptQuotesRow.maps == (Tryz.f4.params.toList ++ Rows.scriptQuotesSpec.plain.varTypes Tryz.prog).any (Tryz.prog.mapsRec ·))) = true := by kernel_rfl
theorem fc_14 : ((Rows.scriptQuotesRow.ifaces == (Tryz.f4.params.toList ++ Rows.scriptQuotesSpec.plain.varTypes Tryz.prog).any (Tryz.prog.ifacesRec ·))) = true := by kernel_rfl
theorem fc_15 : ((Rows.scriptQuotesRow.mapsOut == Tryz.prog.mapsAmong Tryz.f4.resultTypes.toList)) = true := by kernel_rfl
theorem fc_16 : ((Rows.scriptQuotesRow.loops == (Tryz.f4.params.toList ++ Rows.scriptQuotesSpec.plain.varTypes Tryz.prog).any (Tryz.prog.loopsFrom ·))) = true := by kernel_rfl
theorem fc_17 : ((Rows.scriptQuotesRow.wideKeys == (Tryz.f4.params.toList ++ Rows.scriptQuotesSpec.plain.varTypes Tryz.prog ++ Tryz.f4.resultTypes.toList).any (Tryz.prog.wideKeysFrom ·))) = true := by kernel_rfl
theorem fc_18 : (Rows.scriptQuotesSpec.vars.all (Tryz.prog.varReadable ·)) = true := by kernel_rfl
theorem fc_19 : (Tryz.f4.resultTypes.all (fun t => Tryz.prog.readableRec t && decide (t < Tryz.prog.types.size))) = true := by kernel_rfl
theorem fc_20 : ((Rows.scriptQuotesRow.ifacesOut == Tryz.f4.resultTypes.toList.any (Tryz.prog.ifacesRec ·))) = true := by kernel_rfl
theorem fc_21 : ((Rows.scriptQuotesRow.loopsOut == Tryz.f4.resultTypes.toList.any (Tryz.prog.loopsFrom ·))) = true := by kernel_rfl
theorem fc_22 : ((Rows.scriptQuotesRow.plainKeys == Tryz.prog.plainKeys)) = true := by kernel_rfl
theorem fc_23 : (Rows.scriptQuotesRow.shortTexts.isNone) = true := by kernel_rfl
theorem fc_24 : (Tryz.prog.stopsHeard) = true := by kernel_rfl
theorem fc_25 : (Tryz.prog.mayEnter) = true := by kernel_rfl
theorem fc_26 : ((Rows.scriptQuotesRow.lifted == Tryz.prog.liftsFinal)) = true := by kernel_rfl
theorem fc_27 : ((Tryz.prog.make == some Rows.scriptQuotesRow.make)) = true := by kernel_rfl
theorem fc_28 : ((Rows.scriptQuotesRow.kinds == (if Rows.scriptQuotesRow.domain.isEmpty then [] else Tryz.f4.params.toList.map fun t => match Tryz.prog.underlying t with | some (.int k) => some k | _ => none))) = true := by kernel_rfl
theorem fc_29 : ((Rows.scriptQuotesRow.pinned == Rows.scriptQuotesRow.pinnedBy)) = true := by kernel_rfl
theorem fc_30 : ((Rows.scriptQuotesRow.veiled == (Tryz.f4.params.toList ++ Rows.scriptQuotesSpec.plain.varTypes Tryz.prog ++ Tryz.f4.resultTypes.toList).any (Tryz.prog.veiledRec ·))) = true := by kernel_rfl
theorem fc_31 : (Rows.scriptQuotesRow.veiledFits Tryz.prog Tryz.f4.params.toList (Tryz.f4.params.toList ++ Rows.scriptQuotesSpec.plain.varTypes Tryz.prog ++ Tryz.f4.resultTypes.toList)) = true := by kernel_rfl
theorem band {a b : Bool} (h : a = true) (k : b = true) : (a && b) = true := by rw [h, k]; rfl
theorem fc_all : joinedFacts Tryz.prog 4 Tryz.f4 Rows.scriptQuotesSpec Rows.scriptQuotesRow = true :=
  band (band (band (band (band (band (band (band (band (band (band (band (band (band (band (band (band (band (band (band (band (band (band (band (band (band (band (band (band (band (band (fc_0) fc_1) fc_2) fc_3) fc_4) fc_5) fc_6) fc_7) fc_8) fc_9) fc_10) fc_11) fc_12) fc_13) fc_14) fc_15) fc_16) fc_17) fc_18) fc_19) fc_20) fc_21) fc_22) fc_23) fc_24) fc_25) fc_26) fc_27) fc_28) fc_29) fc_30) fc_31
theorem fc_named : Tryz.prog.funcNamed "cellaret/cellaretlaw25.ScriptQuotes" = some 4 := by kernel_rfl
theorem fc_inst : Tryz.f4.isInstance Tryz.prog Rows.scriptQuotesRow.origin Rows.scriptQuotesRow.targs := of_decide_eq_true (by kernel_rfl)
theorem fc_wrap : Tryz.f4.isWrapper Tryz.prog Rows.scriptQuotesRow.wrapper Rows.scriptQuotesRow.mainSum := by unfold Func.isWrapper; first | (rw [if_pos (by decide +kernel)]; kernel_rfl) | (rw [if_neg (by decide +kernel)]; exact ⟨rfl, rfl⟩)
theorem fc_text : Rows.scriptQuotesRow.wfByText (OpenSpec.ofChange Rows.scriptQuotesSpec) = true := by kernel_rfl
theorem fc_main : Tryz.pinned.checked.prog.mainIs = some (Rows.scriptQuotesCard.stood.harness.1, Rows.scriptQuotesCard.stood.harness.2.toList) := by kernel_rfl
theorem fc_looks : true = Tryz.prog.looks [] := by kernel_rfl
theorem fc_goes : false = Rows.scriptQuotesRow.goesBy Tryz.prog := goesBy_false noGo _ rfl
theorem fc_stand (t : TypeId) (h : t ∈ Tryz.f4.params.toList) : Tryz.prog.wantsStandIn t = false := by
  have : (Tryz.f4.params.toList.all fun u => !Tryz.prog.wantsStandIn u) = true := by kernel_rfl
  simpa using List.all_eq_true.1 this t h
end Go.Proofs.YtadcebncbpopdaaGreatDoor
