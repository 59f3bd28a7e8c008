/-
  The law cellaret/cellaretlaw21.ConnKnown, called in whatever memory that bears the program's variables, answers true and leaves what was there as it was; by the kernel's run of the abstract machine.
-/
import Derived.Test.YtgdjmcfdopbnkaaGreatDoorAwake
namespace Go.AM
open Go.Proofs Go.RowKit
set_option maxRecDepth 1000000
theorem law_run : isT (acall 5000 hooksA (look tab) 100 3 [] h0) = true := by kernel_rfl
theorem law_calls (w : World) (hw : NG ≤ w.heap.size) : Calls Tryz.prog 3 #[] w fun e w' => e = .returned (.bool true) ∧ Below w.heap.size w w' := by
  obtain ⟨k, hk⟩ := of_isT law_run
  exact closed_calls (acall_ok mixed hooksA_ok funs_ok 100) hk w hw
end Go.AM
