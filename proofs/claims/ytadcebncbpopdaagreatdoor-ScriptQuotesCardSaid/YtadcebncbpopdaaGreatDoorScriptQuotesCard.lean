/-
  The card of the law cellaret/cellaretlaw25.ScriptQuotes is proved: for any text the law answers true. Condition: the listed package-level variables read as listed (the given tie ties them to the text).
-/
import Derived.Test.YtadcebncbpopdaaGreatDoorQuotesSmall
import Derived.Test.YtadcebncbpopdaaGreatDoorScriptQuotesFacts
import Derived.Test.YtadcebncbpopdaaGreatDoorTie
namespace Go.Proofs.YtadcebncbpopdaaGreatDoor
open Go.ChangeShapes Go.WideShapes Go.ChangeAt Go.RowKit Go.ChangeMaps
set_option maxRecDepth 100000
theorem law_lifted (os : Os) (started : os.Started) (H : Type) (enc : TypeId × Value → H) :
    ReturnsInHanded {} Tryz.checked os 4 .any (fun w args => (Rows.scriptQuotesSpec.pre enc Tryz.prog Tryz.f4 [] false w args ∧ laidMetH Tryz.prog laidL w) ∧ sizedMet enc Tryz.prog Tryz.f4 (OpenSpec.ofChange Rows.scriptQuotesSpec) false w args)
      (Rows.scriptQuotesSpec.post enc Tryz.prog Tryz.f4 false true false false) := by
  refine returnsInHanded_of_change_and (C := Tryz.checked) (X := fun w _ => laidMetH Tryz.prog laidL w) (fun _ _ _ hh h => h.of_heap hh) own started (by kernel_rfl) Tryz.func4
    (ChangeSpec.witness_shaped (enc := enc) (C := Tryz.checked) (os := os) (X := fun w _ => laidMetH Tryz.prog laidL w) false (laidWorld os) #[.string ⟨#[]⟩] 8 rfl (laid_shaped os _) (by kernel_rfl) (by kernel_rfl) (by kernel_rfl) (laid_met os _)) ?_
  intro W base args ds gs before hval0 hW _ _ hL _
  have hval : ∀ (j : Nat) t v, Tryz.f4.params[j]? = some t → args[j]? = some v → Value.okWide Tryz.prog W .any base t v := hval0
  have hW' := hW
  obtain ⟨p, q, hA0, hV, rfl, hfz, hnd⟩ := hW
  have hA : DataW.TrodAll enc Tryz.prog W 0 (fun _ => true) true Tryz.f4.params.toList args.toList ds p := hA0
  rw [Tryz.params4] at hA hval
  obtain ⟨v0, d0, rfl, rfl, h0⟩ := trodAll_one hA
  obtain ⟨rfl, rfl⟩ := trodVars_none hV
  obtain ⟨a, rfl, rfl, rfl, wa⟩ := open_string Tryz.underlying9 (hval 0 9 v0 rfl rfl) h0
  simp only [List.append_nil] at hW'
  refine (AM.quotes_law a W (ng_world hL) (AM.err_world hL)).mono fun e W' ⟨he, hb⟩ => ?_
  subst he
  refine ⟨_, rfl, _, _, _, [], [], [], hW', ?_, ?_, rfl, hb.frame _, fun h => by cases h⟩
  · exact trodAll_mk1 (shut_bool Tryz.underlying4 true)
  · rw [Tryz.params4]
    exact trodAll_mk1 (shut_string Tryz.underlying9 wa)

theorem law_said : Rows.ScriptQuotesSaid :=
  OpenClaim.holds_of_wide 4 Tryz.f4 rfl rfl rfl rfl rfl rfl rfl ⟨rfl, rfl, rfl, rfl, rfl⟩ rfl rfl rfl rfl rfl fc_named Tryz.func4 fc_all fc_inst fc_wrap
    (fun os started H enc _ => law_lifted os started H enc)

theorem law_card : Rows.ScriptQuotesCardSaid :=
  Claim7.holds_tied_plain_at .later [] [.data, .data, .data, .data, .sentinel, .sentinel, .pinned] true Rows.scriptQuotesCard.stood.harness true
    law_said (fun _ h => by cases h) fc_text (fun _ h => by cases h) scriptQuotes_row_tie rfl ⟨rfl, rfl⟩ fc_main rfl
    (fun f fn hf hfn => by
      obtain rfl : f = 4 := Option.some.inj (fc_named.symm.trans hf) |>.symm
      obtain rfl : fn = Tryz.f4 := (Option.some.inj (Tryz.func4.symm.trans hfn)).symm
      exact ⟨fc_looks, fun j t ht => fc_stand t (Array.mem_toList_iff.2 (Array.mem_of_getElem? ht))⟩)
    fc_goes
#print axioms law_card
end Go.Proofs.YtadcebncbpopdaaGreatDoor
