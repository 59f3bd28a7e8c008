/-
  AmClose: a part of the abstract machine that stands for runs of the program in the model: no statement of the seat is in it.
-/
import Derived.Test.YtadcebncbpopdaaGreatDoorAmCode
import Derived.Below
set_option linter.unusedSimpArgs false
noncomputable section
namespace Go.AM
open Go.RowKit
/-! ## Calls out of an empty abstract memory -/
section
variable {P : Program} {callH : CallH}

/-- The program's variables are there; nothing is known of what they hold. -/
def muG : Mu := fun i => match Nat.blt i NG with
  | true => some ⟨i, 0, 0⟩
  | false => none
def h0 : AH := ⟨NG, .leaf⟩

theorem st_empty (w : World) (hw : NG ≤ w.heap.size) : St muG (fun _ => none) h0 w where
  ext := fun i B h => by
    have : h0.get i = none := Tr.get_leaf i
    rw [this] at h; cases h
  sim := ⟨fun i B m h => (by cases h), fun i j B C m k _ h => (by cases h), fun i m h => (by
    unfold muG at h
    split at h
    · rename_i hb
      simp only [Nat.blt_eq] at hb
      cases h
      exact ⟨hb, Nat.lt_of_lt_of_le hb hw⟩
    · cases h), fun _ _ => rfl⟩

theorem glob_muG : GlobOk muG := fun i h => ⟨0, by unfold muG; rw [h]⟩

/-- Where the program's variables are named, they lie. -/
theorem ng_le {μ : Mu} {g : G} {h : AH} {w : World} (hg : GlobOk μ) (s : St μ g h w) : NG ≤ w.heap.size := by
  have h7 : Nat.blt (NG - 1) NG = true := by decide
  obtain ⟨n, e⟩ := hg _ h7
  have := (s.sim.bnd _ _ e).2
  have h8 : NG = 8 := rfl
  rw [h8] at this ⊢
  simp only at this
  omega

/-- What was there is left as it was, where the abstract memory knew nothing. -/
theorem Post.below {μ μ' : Mu} {g : G} {h h' : AH} {w w' : World} (p : Post μ g h w h' w' μ') (hr : ∀ i B m, g i = some B → μ i = some m → B.isRo = true) : Below w.heap.size w w' :=
  ⟨p.os, p.tape, p.out, p.sz, fun k hk => p.frC k hk fun i B m hi hro hm => by rw [hr i B m hi hm] at hro; cases hro⟩

theorem closed_calls (hC : CallOk P callH) {f : Nat} {b : Bool} {h' : AH} (he : callH f [] h0 = some (.bool b, h')) (w : World) (hw : NG ≤ w.heap.size) :
    Calls P f #[] w fun e w' => e = .returned (.bool b) ∧ Below w.heap.size w w' := by
  obtain ⟨_, hc⟩ := hC _ _ _ _ _ he
  refine (hc _ _ w [] glob_muG (st_empty w hw) rfl).mono ?_
  rintro e w' ⟨v', μ', rfl, hv, hp⟩
  simp only [VR] at hv
  subst hv
  exact ⟨rfl, hp.below fun i B m h => by cases h⟩

/-- A stand-in for a call that takes nothing, tells a bool and touches nothing that was there. -/
def hookBool (b : Bool) : List AV → AH → R := fun args h => match args with
  | [] => some (.bool b, h)
  | _ => none

theorem hookBool_ok {f : Nat} {fn : Func} {b : Bool} (hf : P.funcs[f]? = some fn) (hb : fn.body.isNone = false) (hn : (fn.name == "runtime.NumGoroutine") = false)
    (hc : ∀ w, NG ≤ w.heap.size → Calls P f #[] w fun e w' => e = .returned (.bool b) ∧ Below w.heap.size w w') : HookOk P f (hookBool b) := by
  intro args h v h' he
  unfold hookBool at he
  split at he
  · simp only [Option.some.injEq, Prod.mk.injEq] at he
    obtain ⟨rfl, rfl⟩ := he
    refine ⟨⟨fn, hf, hb, hn⟩, fun μ g w cargs hg s ha => ?_⟩
    simp only [VRs] at ha
    subst ha
    refine (hc w (ng_le hg s)).mono ?_
    rintro e w' ⟨rfl, bel⟩
    refine ⟨_, μ, rfl, rfl, ?_⟩
    have hget : ∀ i m, μ i = some m → w'.heap[m.b]? = w.heap[m.b]? := fun i m hm => bel.block m.b (s.sim.bnd i m hm).2
    refine ⟨Mu.le.refl _, ?_, fun b hb _ => bel.block b hb, fun j B m hj hm hr => ?_, fun i _ hn => ⟨rfl, hn⟩, fun i B h1 h2 => (by rw [h1] at h2; cases h2), Nat.le_refl _, bel.size, bel.os, bel.tape, bel.output⟩
    · rw [upd_self s.ext]
      exact ⟨fun i B m hi hm => by rw [hget i m hm]; exact s.sim.blk i B m hi hm, s.sim.inj, fun i m hm => ⟨(s.sim.bnd i m hm).1, Nat.lt_of_lt_of_le (s.sim.bnd i m hm).2 bel.size⟩, s.sim.new⟩
    · rw [upd_self s.ext] at hj
      exact .inr ⟨j, B, m, hj, hr, hm, rfl⟩
  · cases he
end
end Go.AM
end
