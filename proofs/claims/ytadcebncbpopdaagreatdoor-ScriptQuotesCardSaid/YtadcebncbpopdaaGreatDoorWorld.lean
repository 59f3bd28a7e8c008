/-
  A world in which the variables that the rows list read as listed: for the rows' witness. And: no function of the translation starts a goroutine.
-/
import Derived.Test.YtadcebncbpopdaaGreatDoorRows
import Derived.ProofKit
import Derived.LaidMore
import Derived.OpenShut
import Derived.Stop.Joined
import Derived.LaidSub
import GoSem.ClaimGoes
import Derived.Test.YtadcebncbpopdaaGreatDoorAmEval
namespace Go.Proofs.YtadcebncbpopdaaGreatDoor
open Go.ChangeShapes Go.WideShapes Go.ChangeAt Go.RowKit

theorem own : ownKnob Tryz.prog.godebug = none := by kernel_rfl

noncomputable abbrev laidL : List (String × DataW Unit) := Rows.scriptKnownRow.laid

/-- The world that the door's run leaves, the pinned table laid besides. -/
noncomputable def laidWorld (os : Os) : World :=
  let w0 := World.doorLaid Tryz.prog 72 os
  { w0 with heap := w0.heap.modify 4 fun
      | .cells _ t fr => .cells ⟨Go.Pinned.utf8FirstZ.map fun (n : Nat) => .int .u8 n⟩ t fr
      | o => o }
set_option maxRecDepth 100000
theorem laid_met (os : Os) (args : Array Value) : laidMetH Tryz.prog laidL ((laidWorld os).forCall (fun _ _ => 0) ⟨#[], args, []⟩).memory :=
  laidMetH_of_parts3 (fuel := 8) (laidMet_of_run' 8 (by kernel_rfl) (by kernel_rfl)) (by kernel_rfl) (by kernel_rfl)
theorem laid_shaped (os : Os) (args : Array Value) : ((laidWorld os).forCall (fun _ _ => 0) ⟨#[], args, []⟩).Shaped Tryz.prog :=
  World.shaped_of_RefB (by kernel_rfl) (by kernel_rfl)

theorem laidVars_mem {P : Program} {w : World} {n : String} {d : DataW Unit} : ∀ {l : List (String × DataW Unit)} {ps : List MemPlace}, DataW.LaidVars P w l ps → (n, d) ∈ l → ∃ g cs, P.globalNamed n = some g ∧ w.var? P n = some cs
  | [], _, _, h => by cases h
  | (m, e) :: r, ps, ⟨g, t, cs, f, p, q, hg, _, hv, _, hr, _⟩, h => by
    rcases List.mem_cons.1 h with e | h
    · cases e
      exact ⟨g, cs, hg, hv⟩
    · exact laidVars_mem hr h
/-- Where the listed variables lie, all of the program's variables do. -/
theorem ng_world {W : World} (h : laidMetH Tryz.prog laidL W) : AM.NG ≤ W.heap.size := by
  obtain ⟨ps, hv, _⟩ := (laidMetH_iff.1 h).1
  obtain ⟨g, cs, hg, hvv⟩ := laidVars_mem hv (List.mem_of_getElem? (i := 1) (show (laidL.filter fun x => x.2.handleName?.isNone)[1]? = some ("math/bits.deBruijn64tab", Rows.laid_math_bits_deBruijn64tab) by kernel_rfl))
  have hg7 : g = 7 := Option.some.inj (hg.symm.trans (show Tryz.prog.globalNamed "math/bits.deBruijn64tab" = some 7 by kernel_rfl))
  subst hg7
  have h8 : AM.NG = 8 := rfl
  rw [h8]
  have h7 : 7 < W.heap.size := by
    simp only [World.var?, hg, Option.bind_some] at hvv
    split at hvv
    · rename_i hh
      exact (Array.getElem?_eq_some_iff.1 hh).1
    · cases hvv
  omega

/-- No function of the translation starts a goroutine. -/
theorem noGo : Tryz.prog.funcs.toList.any Func.goes = false := by kernel_rfl
theorem goes_none {P : Program} (h : P.funcs.toList.any Func.goes = false) (f : FuncId) : P.goes f = false := by
  have h1 : ∀ g : FuncId, (P.funcs[g]?).any Func.goes = false := fun g => by
    cases e : P.funcs[g]? with
    | none => rfl
    | some fn =>
      have hm : fn ∈ P.funcs.toList := by
        have := Array.mem_of_getElem? e
        simpa using this
      simpa using List.any_eq_false.1 h fn hm
  have h2 : P.funcs.any Func.goes = false := by rw [← Array.any_toList]; exact h
  unfold Program.goes
  rw [h2, Bool.and_false, Bool.or_false, List.any_eq_false]
  exact fun g _ => by simp [h1 g]
theorem goesBy_false {P : Program} (h : P.funcs.toList.any Func.goes = false) (c : OpenClaim) (hs : c.start = .entering) : false = c.goesBy P := by
  unfold OpenClaim.goesBy Program.goesAt Program.goesFrom
  rw [hs]
  cases P.funcNamed c.func with
  | none => rfl
  | some f => simp [goes_none h f]
end Go.Proofs.YtadcebncbpopdaaGreatDoor
