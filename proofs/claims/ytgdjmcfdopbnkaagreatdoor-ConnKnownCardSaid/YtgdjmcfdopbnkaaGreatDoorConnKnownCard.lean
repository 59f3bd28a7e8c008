/-
  The card of the law cellaret/cellaretlaw21.ConnKnown is proved: the law answers true. Condition: the listed package-level variables read as listed (the given tie ties them to the text).
-/
import Derived.Test.YtgdjmcfdopbnkaaGreatDoorConnKnownRun
import Derived.Test.YtgdjmcfdopbnkaaGreatDoorConnKnownFacts
import Derived.Test.YtgdjmcfdopbnkaaGreatDoorTie
namespace Go.Proofs.YtgdjmcfdopbnkaaGreatDoor
open Go.ChangeShapes Go.WideShapes Go.ChangeAt Go.RowKit
set_option maxRecDepth 100000
theorem law_lifted (os : Os) (started : os.Started) (H : Type) (enc : TypeId × Value → H) :
    ReturnsInHanded {} Tryz.checked os 3 .any (fun w args => (Rows.connKnownSpec.pre enc Tryz.prog Tryz.f3 [] false w args ∧ laidMetH Tryz.prog laidL w) ∧ sizedMet enc Tryz.prog Tryz.f3 (OpenSpec.ofChange Rows.connKnownSpec) false w args)
      (Rows.connKnownSpec.post enc Tryz.prog Tryz.f3 false true false false) := by
  refine returnsInHanded_of_change_and (C := Tryz.checked) (X := fun w _ => laidMetH Tryz.prog laidL w) (fun _ _ _ hh h => h.of_heap hh) own started (by kernel_rfl) Tryz.func3
    (ChangeSpec.witness_shaped (enc := enc) (C := Tryz.checked) (os := os) (X := fun w _ => laidMetH Tryz.prog laidL w) false (laidWorld os) #[] 8 rfl (laid_shaped os _) (by kernel_rfl) (by kernel_rfl) (by kernel_rfl) (laid_met os _)) ?_
  intro W base args ds gs before hval0 hW _ _ hL _
  have hW' := hW
  obtain ⟨p, q, hA0, hV, rfl, hfz, hnd⟩ := hW
  have hA : DataW.TrodAll enc Tryz.prog W 0 (fun _ => true) true Tryz.f3.params.toList args.toList ds p := hA0
  rw [Tryz.params3] at hA
  obtain ⟨rfl, rfl, rfl⟩ : args = #[] ∧ ds = [] ∧ p = [] := by
    obtain ⟨l⟩ := args
    cases l with
    | nil => cases ds with
      | nil => exact ⟨rfl, rfl, by simpa [DataW.TrodAll] using hA⟩
      | cons _ _ => simp [DataW.TrodAll] at hA
    | cons _ _ => simp [DataW.TrodAll] at hA
  obtain ⟨rfl, rfl⟩ := trodVars_none hV
  refine (AM.law_calls W (ng_world hL)).mono fun e W' ⟨he, hb⟩ => ?_
  subst he
  refine ⟨_, rfl, _, _, _, [], [], [], hW', ?_, ?_, rfl, hb.frame _, fun h => by cases h⟩
  · exact trodAll_mk1 (shut_bool Tryz.underlying4 true)
  · rw [Tryz.params3]; simp [DataW.TrodAll, Rows.connKnownSpec]

theorem law_said : Rows.ConnKnownSaid :=
  OpenClaim.holds_of_wide 3 Tryz.f3 rfl rfl rfl rfl rfl rfl rfl ⟨rfl, rfl, rfl, rfl, rfl⟩ rfl rfl rfl rfl rfl fc_named Tryz.func3 fc_all fc_inst fc_wrap
    (fun os started H enc _ => law_lifted os started H enc)

theorem law_card : Rows.ConnKnownCardSaid :=
  Claim7.holds_tied_plain_at .later [] [.data, .data, .data, .data, .sentinel, .sentinel, .pinned] true Rows.connKnownCard.stood.harness true
    law_said (fun _ h => by cases h) fc_text (fun _ h => by cases h) connKnown_row_tie rfl ⟨rfl, rfl⟩ fc_main rfl
    (fun f fn hf hfn => by
      obtain rfl : f = 3 := Option.some.inj (fc_named.symm.trans hf) |>.symm
      obtain rfl : fn = Tryz.f3 := (Option.some.inj (Tryz.func3.symm.trans hfn)).symm
      exact ⟨fc_looks, fun j t ht => fc_stand t (Array.mem_toList_iff.2 (Array.mem_of_getElem? ht))⟩)
    fc_goes
#print axioms law_card
end Go.Proofs.YtgdjmcfdopbnkaaGreatDoor
