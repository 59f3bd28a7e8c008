/-
  What the package tells of itself ahead of each law (awake) answers true, in whatever memory; by the kernel.
-/
import Derived.Test.YtgdjmcfdopbnkaaGreatDoorComp
import Derived.Test.YtgdjmcfdopbnkaaGreatDoorAmCrc2
namespace Go.AM
open Go.Proofs Go.RowKit
theorem c253 : compFun Tryz.prog Tryz.f253 = some ⟨35, [.tmp 4], body458⟩ := by kernel_rfl
theorem c342 : compFun Tryz.prog Tryz.f342 = some ⟨40, [.tmp 4], body614⟩ := by kernel_rfl
noncomputable def hooks : Nat → Option (List AV → AH → R) := fun f => match Nat.beq f 253, Nat.beq f 342 with | true, _ => some hook458 | _, true => some hook614 | _, _ => none
theorem hooks_ok : ∀ f k, hooks f = some k → HookOk Tryz.prog f k := by
  intro f k e
  unfold hooks at e
  split at e
  · rename_i h
    have : f = 253 := Nat.eq_of_beq_eq_true h
    subst this; cases e
    exact hook_of_run mixed Tryz.func253 c253 (by kernel_rfl) hook458_run
  · rename_i h _
    have : f = 342 := Nat.eq_of_beq_eq_true h
    subst this; cases e
    exact hook_of_run mixed Tryz.func342 c342 (by kernel_rfl) hook614_run
  · cases e
def isT : R → Bool
  | some (.bool true, _) => true
  | _ => false
theorem of_isT {r : R} (h : isT r = true) : ∃ k, r = some (.bool true, k) := by
  unfold isT at h
  split at h
  · exact ⟨_, rfl⟩
  · cases h
set_option maxRecDepth 1000000
theorem awake_run : isT (acall 5000 hooks (look tab) 100 10 [] h0) = true := by kernel_rfl
theorem awake_calls (w : World) (hw : NG ≤ w.heap.size) : Calls Tryz.prog 10 #[] w fun e w' => e = .returned (.bool true) ∧ Below w.heap.size w w' := by
  obtain ⟨k, hk⟩ := of_isT awake_run
  exact closed_calls (acall_ok mixed hooks_ok funs_ok 100) hk w hw
theorem awake_hook : HookOk Tryz.prog 10 (hookBool true) := hookBool_ok Tryz.func10 (by kernel_rfl) (by kernel_rfl) awake_calls
noncomputable def hooksA : Nat → Option (List AV → AH → R) := fun f => match Nat.beq f 10 with | true => some (hookBool true) | false => hooks f
theorem hooksA_ok : ∀ f k, hooksA f = some k → HookOk Tryz.prog f k := by
  intro f k e
  unfold hooksA at e
  split at e
  · rename_i h
    have : f = 10 := Nat.eq_of_beq_eq_true h
    subst this; cases e
    exact awake_hook
  · exact hooks_ok f k e
end Go.AM
