/-
  The card of the law cellaret/cellaretlaw21.ConnQuit is proved: for any two texts the law answers true. Condition: the listed package-level variables read as listed (the given tie ties them to the text).
-/
import Derived.Test.YtgdjmcfdopbnkaaGreatDoorSmall
import Derived.Test.YtgdjmcfdopbnkaaGreatDoorConnQuitFacts
import Derived.Test.YtgdjmcfdopbnkaaGreatDoorTie
namespace Go.Proofs.YtgdjmcfdopbnkaaGreatDoor
open Go.ChangeShapes Go.WideShapes Go.ChangeAt Go.RowKit Go.ChangeMaps
set_option maxRecDepth 100000
theorem law_lifted (os : Os) (started : os.Started) (H : Type) (enc : TypeId × Value → H) :
    ReturnsInHanded {} Tryz.checked os 9 .any (fun w args => (Rows.connQuitSpec.pre enc Tryz.prog Tryz.f9 [] false w args ∧ laidMetH Tryz.prog laidL w) ∧ sizedMet enc Tryz.prog Tryz.f9 (OpenSpec.ofChange Rows.connQuitSpec) false w args)
      (Rows.connQuitSpec.post enc Tryz.prog Tryz.f9 false true false false) := by
  refine returnsInHanded_of_change_and (C := Tryz.checked) (X := fun w _ => laidMetH Tryz.prog laidL w) (fun _ _ _ hh h => h.of_heap hh) own started (by kernel_rfl) Tryz.func9
    (ChangeSpec.witness_shaped (enc := enc) (C := Tryz.checked) (os := os) (X := fun w _ => laidMetH Tryz.prog laidL w) false (laidWorld os) #[.string ⟨#[]⟩, .string ⟨#[]⟩] 8 rfl (laid_shaped os _) (by kernel_rfl) (by kernel_rfl) (by kernel_rfl) (laid_met os _)) ?_
  intro W base args ds gs before hval0 hW _ _ hL _
  have hval : ∀ (j : Nat) t v, Tryz.f9.params[j]? = some t → args[j]? = some v → Value.okWide Tryz.prog W .any base t v := hval0
  have hW' := hW
  obtain ⟨p, q, hA0, hV, rfl, hfz, hnd⟩ := hW
  have hA : DataW.TrodAll enc Tryz.prog W 0 (fun _ => true) true Tryz.f9.params.toList args.toList ds p := hA0
  rw [Tryz.params9] at hA hval
  obtain ⟨v0, v1, d0, d1, p0, p1, rfl, rfl, rfl, h0, h1⟩ := trodAll_two hA
  obtain ⟨rfl, rfl⟩ := trodVars_none hV
  obtain ⟨a, rfl, rfl, rfl, wa⟩ := open_string Tryz.underlying9 (hval 0 9 v0 rfl rfl) h0
  obtain ⟨b, rfl, rfl, rfl, wb⟩ := open_string Tryz.underlying9 (hval 1 9 v1 rfl rfl) h1
  simp only [List.append_nil] at hW'
  refine (AM.quit_law a b W (ng_world hL)).mono fun e W' ⟨he, hb⟩ => ?_
  subst he
  refine ⟨_, rfl, _, _, _, [], [], [], hW', ?_, ?_, rfl, hb.frame _, fun h => by cases h⟩
  · exact trodAll_mk1 (shut_bool Tryz.underlying4 true)
  · rw [Tryz.params9]
    exact trodAll_mk2 (shut_string Tryz.underlying9 wa) (shut_string Tryz.underlying9 wb)

theorem law_said : Rows.ConnQuitSaid :=
  OpenClaim.holds_of_wide 9 Tryz.f9 rfl rfl rfl rfl rfl rfl rfl ⟨rfl, rfl, rfl, rfl, rfl⟩ rfl rfl rfl rfl rfl fc_named Tryz.func9 fc_all fc_inst fc_wrap
    (fun os started H enc _ => law_lifted os started H enc)

theorem law_card : Rows.ConnQuitCardSaid :=
  Claim7.holds_tied_plain_at .later [] [.data, .data, .data, .data, .sentinel, .sentinel, .pinned] true Rows.connQuitCard.stood.harness true
    law_said (fun _ h => by cases h) fc_text (fun _ h => by cases h) connQuit_row_tie rfl ⟨rfl, rfl⟩ fc_main rfl
    (fun f fn hf hfn => by
      obtain rfl : f = 9 := Option.some.inj (fc_named.symm.trans hf) |>.symm
      obtain rfl : fn = Tryz.f9 := (Option.some.inj (Tryz.func9.symm.trans hfn)).symm
      exact ⟨fc_looks, fun j t ht => fc_stand t (Array.mem_toList_iff.2 (Array.mem_of_getElem? ht))⟩)
    fc_goes
#print axioms law_card
end Go.Proofs.YtgdjmcfdopbnkaaGreatDoor
