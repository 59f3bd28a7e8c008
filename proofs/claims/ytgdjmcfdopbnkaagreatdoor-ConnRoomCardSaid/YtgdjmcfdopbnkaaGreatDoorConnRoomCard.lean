/-
  The card of the law cellaret/cellaretlaw21.ConnRoom is proved: for any three numbers the law answers true. Condition: the listed package-level variables read as listed (the given tie ties them to the text).
-/
import Derived.Test.YtgdjmcfdopbnkaaGreatDoorSmall
import Derived.Test.YtgdjmcfdopbnkaaGreatDoorConn4
import Derived.Test.YtgdjmcfdopbnkaaGreatDoorConnRoomFacts
import Derived.Test.YtgdjmcfdopbnkaaGreatDoorTie
namespace Go.AM
open Go.Proofs Go.RowKit
theorem room_law (n room take : Int) (w : World) (hw : NG ≤ w.heap.size) : Calls Tryz.prog 7 #[.int .i64 n, .int .i64 room, .int .i64 take] w fun e w' => e = .returned (.bool true) ∧ Below w.heap.size w w' := by
  refine callW_true (room_ok gs ⟨_, Tryz.func7, c7, n7⟩ n room take) w hw ?_
  simp [VRs, VR]
end Go.AM
namespace Go.Proofs.YtgdjmcfdopbnkaaGreatDoor
open Go.ChangeShapes Go.WideShapes Go.ChangeAt Go.RowKit Go.ChangeMaps
set_option maxRecDepth 100000
theorem law_lifted (os : Os) (started : os.Started) (H : Type) (enc : TypeId × Value → H) :
    ReturnsInHanded {} Tryz.checked os 7 .any (fun w args => (Rows.connRoomSpec.pre enc Tryz.prog Tryz.f7 [] false w args ∧ laidMetH Tryz.prog laidL w) ∧ sizedMet enc Tryz.prog Tryz.f7 (OpenSpec.ofChange Rows.connRoomSpec) false w args)
      (Rows.connRoomSpec.post enc Tryz.prog Tryz.f7 false true false false) := by
  refine returnsInHanded_of_change_and (C := Tryz.checked) (X := fun w _ => laidMetH Tryz.prog laidL w) (fun _ _ _ hh h => h.of_heap hh) own started (by kernel_rfl) Tryz.func7
    (ChangeSpec.witness_shaped (enc := enc) (C := Tryz.checked) (os := os) (X := fun w _ => laidMetH Tryz.prog laidL w) false (laidWorld os) #[.int .i64 0, .int .i64 0, .int .i64 0] 8 rfl (laid_shaped os _) (by kernel_rfl) (by kernel_rfl) (by kernel_rfl) (laid_met os _)) ?_
  intro W base args ds gs before hval0 hW _ _ hL _
  have hval : ∀ (j : Nat) t v, Tryz.f7.params[j]? = some t → args[j]? = some v → Value.okWide Tryz.prog W .any base t v := hval0
  have hW' := hW
  obtain ⟨p, q, hA0, hV, rfl, hfz, hnd⟩ := hW
  have hA : DataW.TrodAll enc Tryz.prog W 0 (fun _ => true) true Tryz.f7.params.toList args.toList ds p := hA0
  rw [Tryz.params7] at hA hval
  obtain ⟨v0, v1, v2, d0, d1, d2, p0, p1, p2, rfl, rfl, rfl, h0, h1, h2⟩ := trodAll_three hA
  obtain ⟨rfl, rfl⟩ := trodVars_none hV
  obtain ⟨a, rfl, rfl, rfl, wa⟩ := open_int Tryz.underlying3 (hval 0 3 v0 rfl rfl) h0
  obtain ⟨b, rfl, rfl, rfl, wb⟩ := open_int Tryz.underlying3 (hval 1 3 v1 rfl rfl) h1
  obtain ⟨c, rfl, rfl, rfl, wc⟩ := open_int Tryz.underlying3 (hval 2 3 v2 rfl rfl) h2
  simp only [List.append_nil] at hW'
  refine (AM.room_law a b c W (ng_world hL)).mono fun e W' ⟨he, hb⟩ => ?_
  subst he
  refine ⟨_, rfl, _, _, _, [], [], [], hW', ?_, ?_, rfl, hb.frame _, fun h => by cases h⟩
  · exact trodAll_mk1 (shut_bool Tryz.underlying4 true)
  · rw [Tryz.params7]
    exact trodAll_mk3 (shut_int Tryz.underlying3 wa) (shut_int Tryz.underlying3 wb) (shut_int Tryz.underlying3 wc)

theorem law_said : Rows.ConnRoomSaid :=
  OpenClaim.holds_of_wide 7 Tryz.f7 rfl rfl rfl rfl rfl rfl rfl ⟨rfl, rfl, rfl, rfl, rfl⟩ rfl rfl rfl rfl rfl fc_named Tryz.func7 fc_all fc_inst fc_wrap
    (fun os started H enc _ => law_lifted os started H enc)

theorem law_card : Rows.ConnRoomCardSaid :=
  Claim7.holds_tied_plain_at .later [] [.data, .data, .data, .data, .sentinel, .sentinel, .pinned] true Rows.connRoomCard.stood.harness true
    law_said (fun _ h => by cases h) fc_text (fun _ h => by cases h) connRoom_row_tie rfl ⟨rfl, rfl⟩ fc_main rfl
    (fun f fn hf hfn => by
      obtain rfl : f = 7 := Option.some.inj (fc_named.symm.trans hf) |>.symm
      obtain rfl : fn = Tryz.f7 := (Option.some.inj (Tryz.func7.symm.trans hfn)).symm
      exact ⟨fc_looks, fun j t ht => fc_stand t (Array.mem_toList_iff.2 (Array.mem_of_getElem? ht))⟩)
    fc_goes
#print axioms law_card
end Go.Proofs.YtgdjmcfdopbnkaaGreatDoor
