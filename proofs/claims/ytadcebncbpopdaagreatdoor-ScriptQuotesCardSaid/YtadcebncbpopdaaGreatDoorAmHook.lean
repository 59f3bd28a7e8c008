/-
  AmHook: a part of the abstract machine that stands for runs of the program in the model: no statement of the seat is in it.
-/
import Derived.Test.YtadcebncbpopdaaGreatDoorAmCrc
import Derived.Test.YtadcebncbpopdaaGreatDoorAmClose
set_option linter.unusedSimpArgs false
noncomputable section
namespace Go.AM
/-! ## Stand-ins for functions that were run in letters -/
section
variable {P : Program}

theorem hook_of_run {F : Nat} {f : Nat} {fn : Func} {af : AFun} {k : List AV → AH → R} (hm : P.follows .mixedOrders = true) (hf : P.funcs[f]? = some fn) (hcf : compFun P fn = some af) (hn : (fn.name == "runtime.NumGoroutine") = false)
    (hk : ∀ args h v h', k args h = some (v, h') → ∃ c, CallOk P c ∧ runFun F c af args h = some (v, h')) : HookOk P f k := by
  intro args h v h' he
  obtain ⟨c, hc, hr⟩ := hk args h v h' he
  refine ⟨⟨fn, hf, ?_, hn⟩, fun μ g w cargs hg s ha => fun_ok hc hm hf hcf hr hg s ha⟩
  simp only [compFun, bind, Option.bind_eq_some_iff] at hcf
  obtain ⟨b, hb, _⟩ := hcf
  simp [hb]

theorem callOk_none : CallOk P (fun _ _ _ => none) := fun _ _ _ _ _ h => by cases h
end

/-- Bytes as numbers. -/
def natsOf : List AV → Option (List Nat)
  | [] => some []
  | .int .u8 (.ofNat v) :: r => match Nat.blt v 256, natsOf r with
    | true, some l => some (v :: l)
    | _, _ => none
  | _ => none

theorem natsOf_ok : ∀ {cs : List AV} {l : List Nat}, natsOf cs = some l → cs.length = l.length ∧ (∀ v ∈ l, v < 256) ∧ ∀ (k v : Nat), l[k]? = some v → cs[k]? = some (.int .u8 v)
  | [], l, h => by simp only [natsOf, Option.some.injEq] at h; subst h; simp
  | x :: r, l, h => by
    unfold natsOf at h
    split at h
    · rename_i heq; cases heq
    · rename_i v r' heq
      cases heq
      split at h
      · rename_i l' hb hl
        simp only [Option.some.injEq] at h
        subst h
        obtain ⟨h1, h2, h3⟩ := natsOf_ok hl
        have hv : v < 256 := by simp [Nat.blt] at hb; omega
        refine ⟨by simp [h1], fun u hu => ?_, fun k u hk => ?_⟩
        · rcases List.mem_cons.1 hu with e | e
          · rw [e]; exact hv
          · exact h2 u e
        · cases k with
          | zero => simp at hk; subst hk; rfl
          | succ k => simpa using h3 k u (by simpa using hk)
      · cases h
    · cases h

theorem read_one {h : AH} {b o n : Nat} {cs : List AV} (hr : readCells h b o n = some cs) {k : Nat} {a : AV} (hk : cs[k]? = some a) : readCells h b (o + k) 1 = some [a] := by
  unfold readCells at hr ⊢
  cases hb : h.get b with
  | none => rw [hb] at hr; cases hr
  | some B =>
    rw [hb] at hr
    simp only at hr ⊢
    cases hcs : B.cs with
    | none => rw [hcs] at hr; cases hr
    | some c =>
      rw [hcs] at hr
      simp only [cut] at hr ⊢
      split at hr
      · rename_i hle
        simp only [Option.some.injEq] at hr
        subst hr
        rw [List.getElem?_take] at hk
        split at hk
        · rename_i hkn
          rw [List.getElem?_drop] at hk
          have hlt := (List.getElem?_eq_some_iff.1 hk).1
          rw [if_pos (by omega)]
          congr 1
          rw [List.drop_eq_getElem_cons (by omega)]
          simp only [List.take_succ_cons, List.take_zero, List.cons.injEq, and_true]
          exact (List.getElem?_eq_some_iff.1 hk).2
        · cases hk
      · cases hr

/-- sum.More -/
def hook458 : List AV → AH → R := fun args h => match args with
  | [.int .u32 (.ofNat x), .sl b o n _ _ 1] => match Nat.blt x 4294967296, Nat.blt n 100000, readCells h b o n with
    | true, true, some cs => match natsOf cs with
      | some l => if l.length = n then some (.int .u32 ((more458 x l : Nat) : Int), h) else none
      | none => none
    | _, _, _ => none
  | _ => none

theorem hook458_run {P : Program} : ∀ args h v h', hook458 args h = some (v, h') → ∃ c, CallOk P c ∧ runFun 100000 c ⟨35, [.tmp 4], body458⟩ args h = some (v, h') := by
  intro args h v h' he
  unfold hook458 at he
  split at he
  · rename_i x b o n cap ex
    split at he
    · rename_i cs hx hn hr
      split at he
      · rename_i l hl
        split at he
        · rename_i hlen
          simp only [Option.some.injEq, Prod.mk.injEq] at he
          obtain ⟨rfl, rfl⟩ := he
          obtain ⟨h1, h2, h3⟩ := natsOf_ok hl
          have hx' : x < 4294967296 := by simp [Nat.blt] at hx; omega
          have hn' : n < 100000 := by simp [Nat.blt] at hn; omega
          subst hlen
          exact ⟨_, callOk_none, run458 (by decide) hn' (by omega) hx' h2 fun k v hk => read_one hr (h3 k v hk)⟩
        · cases he
      · cases he
    · cases he
  · cases he
end Go.AM
end
