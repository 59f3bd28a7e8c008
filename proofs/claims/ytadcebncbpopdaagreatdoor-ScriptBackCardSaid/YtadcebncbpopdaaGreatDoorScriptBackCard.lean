/-
  The card of the law cellaret/cellaretlaw25.ScriptBack is proved: for any slice of bytes the law answers true. Condition: the listed package-level variables read as listed (the given tie ties them to the text).
-/
import Derived.Test.YtadcebncbpopdaaGreatDoorBackSmall
import Derived.Test.YtadcebncbpopdaaGreatDoorScriptBackFacts
import Derived.Test.YtadcebncbpopdaaGreatDoorTie
namespace Go.Proofs.YtadcebncbpopdaaGreatDoor
open Go.ChangeShapes Go.WideShapes Go.ChangeAt Go.RowKit Go.ChangeMaps
set_option maxRecDepth 100000
theorem fc_one5 : Tryz.prog.cellsOf 5 = 1 := by kernel_rfl
theorem law_lifted (os : Os) (started : os.Started) (H : Type) (enc : TypeId × Value → H) :
    ReturnsInHanded {} Tryz.checked os 5 .any (fun w args => (Rows.scriptBackSpec.pre enc Tryz.prog Tryz.f5 [] false w args ∧ laidMetH Tryz.prog laidL w) ∧ sizedMet enc Tryz.prog Tryz.f5 (OpenSpec.ofChange Rows.scriptBackSpec) false w args)
      (Rows.scriptBackSpec.post enc Tryz.prog Tryz.f5 false true false false) := by
  refine returnsInHanded_of_change_and (C := Tryz.checked) (X := fun w _ => laidMetH Tryz.prog laidL w) (fun _ _ _ hh h => h.of_heap hh) own started (by kernel_rfl) Tryz.func5
    (ChangeSpec.witness_shaped (enc := enc) (C := Tryz.checked) (os := os) (X := fun w _ => laidMetH Tryz.prog laidL w) false (laidWorld os) #[.slice none 0 0] 8 rfl (laid_shaped os _) (by kernel_rfl) (by kernel_rfl) (by kernel_rfl) (laid_met os _)) ?_
  intro W base args ds gs before hval0 hW _ _ hL _
  have hval : ∀ (j : Nat) t v, Tryz.f5.params[j]? = some t → args[j]? = some v → Value.okWide Tryz.prog W .any base t v := hval0
  have hW' := hW
  obtain ⟨p, q, hA0, hV, rfl, hfz, hnd⟩ := hW
  have hA : DataW.TrodAll enc Tryz.prog W 0 (fun _ => true) true Tryz.f5.params.toList args.toList ds p := hA0
  rw [Tryz.params5] at hA hval
  obtain ⟨v0, d0, rfl, rfl, h0⟩ := trodAll_one hA
  obtain ⟨rfl, rfl⟩ := trodVars_none hV
  have h0k := h0
  have hlt : ∀ x ∈ p, x.block < W.heap.size := fun x hx => by simpa using hW'.lt x (by simpa using hx)
  have hok := hval 0 30 v0 rfl rfl
  have key : Calls Tryz.prog 5 #[v0] W fun e w' => e = .returned (.bool true) ∧ Below W.heap.size W w' := by
    obtain ⟨a0, len0, cap0, rfl⟩ := okWide_slice Tryz.underlying30 hok
    obtain ⟨fuel, hf⟩ := h0
    rcases open_ints Tryz.underlying30 Tryz.underlying5 fc_one5 hf with ⟨hcs, _⟩ | ⟨a, len, cap, zs, hcs, _, hle, hmax, hall, _, hcell, hwf⟩
    · have : a0 = none ∧ len0 = 0 ∧ cap0 = 0 := by simpa [Value.cells] using hcs
      obtain ⟨rfl, rfl, rfl⟩ := this
      exact AM.back_nil W (ng_world hL)
    · have : a0 = some a ∧ len0 = len ∧ cap0 = cap := by simpa [Value.cells] using hcs
      obtain ⟨rfl, rfl, rfl⟩ := this
      obtain ⟨b, off, spot⟩ := a
      have hhas : W.has Tryz.prog .any base ⟨b, off, spot⟩ 5 cap0 := by
        simp only [Value.okWide, Cell.okWide, Cell.ok, Tryz.underlying30] at hok
        exact hok.2.2
      obtain ⟨_, hspot, row, n, hsh, _⟩ := hhas
      simp only at hspot
      subst hspot
      obtain ⟨cs, e, fr, hblk⟩ : ∃ cs e fr, W.heap[b]? = some (.cells cs e fr) := by
        simp only [World.shape?] at hsh
        split at hsh
        · rename_i h; exact ⟨_, _, _, h⟩
        · cases hsh
      have hz : zs.length = cap0 := by simpa using hall
      have hread : ∀ i, i < zs.length → cs[off + i]? = some (.int .u8 (zs.getD i 0)) := by
        intro i hi
        have := hcell i hi
        rw [Go.WideShapes.add_plain] at this
        simp only [World.cell?, hblk] at this
        simpa using this
      have hsl : ((zs.take len0).map fun n => UInt8.ofNat n.toNat).length = len0 := by simp; omega
      have hlaw := AM.back_law ((zs.take len0).map fun n => UInt8.ofNat n.toNat) W (ng_world hL) (b := b) (off := off) (cap := cap0) hblk (by rw [hsl]; exact hle) (fun h => by
          have := hread (cap0 - 1) (by omega)
          have := (Array.getElem?_eq_some_iff.1 this).1
          omega) (fun k x hx => by
          simp only [List.getElem?_map, Option.map_eq_some_iff] at hx
          obtain ⟨n, hn, rfl⟩ := hx
          rw [List.getElem?_take] at hn
          split at hn
          · have hk : k < zs.length := (List.getElem?_eq_some_iff.1 hn).1
            rw [hread k hk]
            have hn' : zs.getD k 0 = n := by simp [List.getD_eq_getElem?_getD, hn]
            have hw := bounds_u8 (hwf n (List.mem_of_getElem? hn))
            rw [hn']
            have : ((UInt8.ofNat n.toNat).toNat : Int) = n := by
              rw [UInt8.toNat_ofNat', Nat.mod_eq_of_lt (by omega)]; omega
            rw [this]
          · cases hn)
      rw [hsl] at hlaw
      exact hlaw
  simp only [List.append_nil] at hW'
  refine key.mono fun e W' ⟨he, hb⟩ => ?_
  subst he
  refine ⟨_, rfl, _, _, _, [], p, [], hW', ?_, ?_, rfl, hb.frame _, fun h => by cases h⟩
  · exact trodAll_mk1 (shut_bool Tryz.underlying4 true)
  · rw [Tryz.params5]
    exact trodAll_mk1 (Below.trod fc_1 (by kernel_rfl) (of_decide_eq_true (by kernel_rfl)) h0k hb hlt)

theorem law_said : Rows.ScriptBackSaid :=
  OpenClaim.holds_of_wide 5 Tryz.f5 rfl rfl rfl rfl rfl rfl rfl ⟨rfl, rfl, rfl, rfl, rfl⟩ rfl rfl rfl rfl rfl fc_named Tryz.func5 fc_all fc_inst fc_wrap
    (fun os started H enc _ => law_lifted os started H enc)

theorem law_card : Rows.ScriptBackCardSaid :=
  Claim7.holds_tied_plain_at .later [] [.data, .data, .data, .data, .sentinel, .sentinel, .pinned] true Rows.scriptBackCard.stood.harness true
    law_said (fun _ h => by cases h) fc_text (fun _ h => by cases h) scriptBack_row_tie rfl ⟨rfl, rfl⟩ fc_main rfl
    (fun f fn hf hfn => by
      obtain rfl : f = 5 := Option.some.inj (fc_named.symm.trans hf) |>.symm
      obtain rfl : fn = Tryz.f5 := (Option.some.inj (Tryz.func5.symm.trans hfn)).symm
      exact ⟨fc_looks, fun j t ht => fc_stand t (Array.mem_toList_iff.2 (Array.mem_of_getElem? ht))⟩)
    fc_goes
#print axioms law_card
end Go.Proofs.YtadcebncbpopdaaGreatDoor
