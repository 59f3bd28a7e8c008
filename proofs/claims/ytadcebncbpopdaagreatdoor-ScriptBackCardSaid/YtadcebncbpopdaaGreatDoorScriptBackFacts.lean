/-
  The closed facts of the row of cellaret/cellaretlaw25.ScriptBack and of its card, each by the kernel. Nothing is claimed here beyond them.
-/
import Derived.Test.YtadcebncbpopdaaGreatDoorCards
import Derived.Test.YtadcebncbpopdaaGreatDoorWorld
import Derived.JoinedOf
import Derived.SevenTiedAt
import Derived.KernelRfl
namespace Go.Proofs.YtadcebncbpopdaaGreatDoor
open Go
set_option maxRecDepth 100000

theorem fc_0 : (Rows.scriptBackRow.wf (OpenSpec.ofChange Rows.scriptBackSpec)) = true := by kernel_rfl
theorem fc_1 : (laidOutB Tryz.prog) = true := by kernel_rfl
theorem fc_2 : (mapsRowed Tryz.prog) = true := by kernel_rfl
theorem fc_3 : (Tryz.f5.params.all (Tryz.prog.readableRec ·)) = true := by kernel_rfl
theorem fc_4 : (namedTie Tryz.prog Rows.scriptBackRow.named Rows.scriptBackSpec.vars) = true := by kernel_rfl
theorem fc_5 : ((Rows.scriptBackRow.stops == [])) = true := by kernel_rfl
theorem fc_6 : ((Tryz.prog.stops == [])) = true := by kernel_rfl
theorem fc_7 : ((Rows.scriptBackRow.knobs == [])) = true := by kernel_rfl
theorem fc_8 : ((Tryz.prog.stopKnobs == [])) = true := by kernel_rfl
theorem fc_9 : ((Rows.scriptBackRow.inPlace == Tryz.prog.inPlace 5)) = true := by kernel_rfl
theorem fc_10 : ((Rows.scriptBackRow.unfollowed == Tryz.prog.unfollowed 5)) = true := by kernel_rfl
theorem fc_11 : ((Rows.scriptBackRow.recurses == Tryz.prog.recurses 5)) = true := by kernel_rfl
theorem fc_12 : ((Rows.scriptBackRow.named == Tryz.prog.varsNamed 5)) = true := by kernel_rfl
theorem fc_13 : ((Rows.scriptBackRow.maps == (Tryz.f5.params.toList ++ Rows.scriptBackSpec.plain.varTypes Tryz.prog).any (Tryz.prog.mapsRec ·))) = true := by kernel_rfl
theorem fc_14 : ((Rows.scriptBackRow.ifaces == (Tryz.f5.params.toList ++ Rows.scriptBackSpec.plain.varTypes Tryz.prog).any (Tryz.prog.ifacesRec ·))) = true := by kernel_rfl
theorem fc_15 : ((Rows.scriptBackRow.mapsOut == Tryz.prog.mapsAmong Tryz.f5.resultTypes.toList)) = true := by kernel_rfl
theorem fc_16 : ((Rows.scriptBackRow.loops == (Tryz.f5.params.toList ++ Rows.scriptBackSpec.plain.varTypes Tryz.prog).any (Tryz.prog.loopsFrom ·))) = true := by kernel_rfl
theorem fc_17 : ((Rows.scriptBackRow.wideKeys == (Tryz.f5.params.toList ++ Rows.scriptBackSpec.plain.varTypes Tryz.prog ++ Tryz.f5.resultTypes.toList).any (Tryz.prog.wideKeysFrom ·))) = true := by kernel_rfl
theorem fc_18 : (Rows.scriptBackSpec.vars.all (Tryz.prog.varReadable ·)) = true := by kernel_rfl
theorem fc_19 : (Tryz.f5.resultTypes.all (fun t => Tryz.prog.readableRec t && decide (t < Tryz.prog.types.size))) = true := by kernel_rfl
theorem fc_20 : ((Rows.scriptBackRow.ifacesOut == Tryz.f5.resultTypes.toList.any (Tryz.prog.ifacesRec ·))) = true := by kernel_rfl
theorem fc_21 : ((Rows.scriptBackRow.loopsOut == Tryz.f5.resultTypes.toList.any (Tryz.prog.loopsFrom ·))) = true := by kernel_rfl
theorem fc_22 : ((Rows.scriptBackRow.plainKeys == Tryz.prog.plainKeys)) = true := by kernel_rfl
theorem fc_23 : (Rows.scriptBackRow.shortTexts.isNone) = true := by kernel_rfl
theorem fc_24 : (Tryz.prog.stopsHeard) = true := by kernel_rfl
theorem fc_25 : (Tryz.prog.mayEnter) = true := by kernel_rfl
theorem fc_26 : ((Rows.scriptBackRow.lifted == Tryz.prog.liftsFinal)) = true := by kernel_rfl
theorem fc_27 : ((Tryz.prog.make == some Rows.scriptBackRow.make)) = true := by kernel_rfl
theorem fc_28 : ((Rows.scriptBackRow.kinds == (if Rows.scriptBackRow.domain.isEmpty then [] else Tryz.f5.params.toList.map fun t => match Tryz.prog.underlying t with | some (.int k) => some k | _ => none))) = true := by kernel_rfl
theorem fc_29 : ((Rows.scriptBackRow.pinned == Rows.scriptBackRow.pinnedBy)) = true := by kernel_rfl
theorem fc_30 : ((Rows.scriptBackRow.veiled == (Tryz.f5.params.toList ++ Rows.scriptBackSpec.plain.varTypes Tryz.prog ++ Tryz.f5.resultTypes.toList).any (Tryz.prog.veiledRec ·))) = true := by kernel_rfl
theorem fc_31 : (Rows.scriptBackRow.veiledFits Tryz.prog Tryz.f5.params.toList (Tryz.f5.params.toList ++ Rows.scriptBackSpec.plain.varTypes Tryz.prog ++ Tryz.f5.resultTypes.toList)) = true := by kernel_rfl
theorem band {a b : Bool} (h : a = true) (k : b = true) : (a && b) = true := by rw [h, k]; rfl
theorem fc_all : joinedFacts Tryz.prog 5 Tryz.f5 Rows.scriptBackSpec Rows.scriptBackRow = true :=
  band (band (band (band (band (band (band (band (band (band (band (band (band (band (band (band (band (band (band (band (band (band (band (band (band (band (band (band (band (band (band (fc_0) fc_1) fc_2) fc_3) fc_4) fc_5) fc_6) fc_7) fc_8) fc_9) fc_10) fc_11) fc_12) fc_13) fc_14) fc_15) fc_16) fc_17) fc_18) fc_19) fc_20) fc_21) fc_22) fc_23) fc_24) fc_25) fc_26) fc_27) fc_28) fc_29) fc_30) fc_31
theorem fc_named : Tryz.prog.funcNamed "cellaret/cellaretlaw25.ScriptBack" = some 5 := by kernel_rfl
theorem fc_inst : Tryz.f5.isInstance Tryz.prog Rows.scriptBackRow.origin Rows.scriptBackRow.targs := of_decide_eq_true (by kernel_rfl)
theorem fc_wrap : Tryz.f5.isWrapper Tryz.prog Rows.scriptBackRow.wrapper Rows.scriptBackRow.mainSum := by unfold Func.isWrapper; first | (rw [if_pos (by decide +kernel)]; kernel_rfl) | (rw [if_neg (by decide +kernel)]; exact ⟨rfl, rfl⟩)
theorem fc_text : Rows.scriptBackRow.wfByText (OpenSpec.ofChange Rows.scriptBackSpec) = true := by kernel_rfl
theorem fc_main : Tryz.pinned.checked.prog.mainIs = some (Rows.scriptBackCard.stood.harness.1, Rows.scriptBackCard.stood.harness.2.toList) := by kernel_rfl
theorem fc_looks : true = Tryz.prog.looks [] := by kernel_rfl
theorem fc_goes : false = Rows.scriptBackRow.goesBy Tryz.prog := goesBy_false noGo _ rfl
theorem fc_stand (t : TypeId) (h : t ∈ Tryz.f5.params.toList) : Tryz.prog.wantsStandIn t = false := by
  have : (Tryz.f5.params.toList.all fun u => !Tryz.prog.wantsStandIn u) = true := by kernel_rfl
  simpa using List.all_eq_true.1 this t h
end Go.Proofs.YtadcebncbpopdaaGreatDoor
