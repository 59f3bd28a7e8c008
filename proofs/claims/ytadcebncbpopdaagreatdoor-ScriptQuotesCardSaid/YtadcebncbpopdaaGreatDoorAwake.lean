/-
  What the package tells of itself ahead of each law (awake) answers true, in whatever memory; by the kernel.
-/
import Derived.Test.YtadcebncbpopdaaGreatDoorComp
import Derived.Test.YtadcebncbpopdaaGreatDoorAmCrc2
namespace Go.AM
open Go.Proofs Go.RowKit
theorem c222 : compFun Tryz.prog Tryz.f222 = some ⟨35, [.tmp 4], body458⟩ := by kernel_rfl
noncomputable def hooks : Nat → Option (List AV → AH → R) := fun f => match Nat.beq f 222, Nat.beq f 222 with | true, _ => some hook458 | _, true => none | _, _ => none
theorem hooks_ok : ∀ f k, hooks f = some k → HookOk Tryz.prog f k := by
  intro f k e
  unfold hooks at e
  split at e
  · rename_i h
    have : f = 222 := Nat.eq_of_beq_eq_true h
    subst this; cases e
    exact hook_of_run mixed Tryz.func222 c222 (by kernel_rfl) hook458_run
  · cases e
  · cases e
def isT : R → Bool
  | some (.bool true, _) => true
  | _ => false
theorem of_isT {r : R} (h : isT r = true) : ∃ k, r = some (.bool true, k) := by
  unfold isT at h
  split at h
  · exact ⟨_, rfl⟩
  · cases h
set_option maxRecDepth 1000000
theorem awake_run : isT (acall 5000 hooks (look tab) 100 6 [] h0) = true := by kernel_rfl
theorem awake_calls (w : World) (hw : NG ≤ w.heap.size) : Calls Tryz.prog 6 #[] w fun e w' => e = .returned (.bool true) ∧ Below w.heap.size w w' := by
  obtain ⟨k, hk⟩ := of_isT awake_run
  exact closed_calls (acall_ok mixed hooks_ok funs_ok 100) hk w hw
theorem awake_hook : HookOk Tryz.prog 6 (hookBool true) := hookBool_ok Tryz.func6 (by kernel_rfl) (by kernel_rfl) awake_calls
noncomputable def hooksA : Nat → Option (List AV → AH → R) := fun f => match Nat.beq f 6 with | true => some (hookBool true) | false => hooks f
theorem hooksA_ok : ∀ f k, hooksA f = some k → HookOk Tryz.prog f k := by
  intro f k e
  unfold hooksA at e
  split at e
  · rename_i h
    have : f = 6 := Nat.eq_of_beq_eq_true h
    subst this; cases e
    exact awake_hook
  · exact hooks_ok f k e
end Go.AM
