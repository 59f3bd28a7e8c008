/-
  AmOps2: a part of the abstract machine that stands for runs of the program in the model: no statement of the seat is in it.
-/
import Derived.Test.YtadcebncbpopdaaGreatDoorAmOps
set_option linter.unusedSimpArgs false
noncomputable section
namespace Go.AM
section
variable {P : Program} {o : Oper} {aop : AOp} {tm : Tm} {ρ : Operand → Value} {μ : Mu} {v : AV} {g : G} {h h' : AH} {w w' : World} {callH : CallH}

theorem alloc_kind {aop : AOp} {B : AB} {f : Nat → AV} (hk : kindOf aop = .alloc) (he : evAlloc tm aop = some (B, f)) :
    (∃ e z, aop = .alloc e z) ∨ (∃ e x, aop = .box e x) ∨ (∃ e l z ps, aop = .buildSlice e l z ps) ∨ aop = .mkMap ∨ (∃ e b z l c, aop = .mkSlice e b z l c) ∨ (∃ e x, aop = .conv (.str2bytes e) x) ∨ (∃ x, aop = .range true x) := by
  cases aop <;> simp only [kindOf] at hk <;> first | (cases hk; done) | skip
  case alloc => exact .inl ⟨_, _, rfl⟩
  case box => exact .inr (.inl ⟨_, _, rfl⟩)
  case buildSlice => exact .inr (.inr (.inl ⟨_, _, _, _, rfl⟩))
  case mkMap => exact .inr (.inr (.inr (.inl rfl)))
  case mkSlice => exact .inr (.inr (.inr (.inr (.inl ⟨_, _, _, _, _, rfl⟩))))
  case conv c x =>
    cases c <;> first | (cases hk; done) | skip
    exact .inr (.inr (.inr (.inr (.inr (.inl ⟨_, _, rfl⟩)))))
  case range s x =>
    cases s
    · cases hk
    · exact .inr (.inr (.inr (.inr (.inr (.inr ⟨_, rfl⟩)))))
  case ext n xs =>
    split at hk <;> cases hk

theorem alloc_all (hc : compOp P o = some aop) (hk : kindOf aop = .alloc) (hr : OR μ tm ρ o) {B : AB} {f : Nat → AV} (he : evAlloc tm aop = some (B, f)) : AllocOk P o ρ μ w B f := by
  have hk0 := alloc_kind hk he
  cases ho : o.op with
  | alloc e => exact al_alloc ho hc he
  | box e x => exact al_box ho hc hr he
  | buildSlice t n ps => exact al_buildSlice ho hc hr he
  | makeMap t r => exact al_mkMap ho hc he
  | makeSlice t l c => exact al_mkSlice ho hc hr he
  | convert sT d x => exact al_str2bytes ho hc hr he
  | range t x => exact al_rangeStr ho hc hr he
  | move x => simp only [compOp, compOpB, ho, Option.some.injEq] at hc; subst hc; cases hk
  | assign x => simp only [compOp, compOpB, ho, Option.some.injEq] at hc; subst hc; cases hk
  | pick c a b => simp only [compOp, compOpB, ho, Option.some.injEq] at hc; subst hc; cases hk
  | nilCheck x => simp only [compOp, compOpB, ho, Option.some.injEq] at hc; subst hc; cases hk
  | unOp op t x => simp only [compOp, compOpB, ho, Option.some.injEq] at hc; subst hc; cases hk
  | extract x i => simp only [compOp, compOpB, ho, Option.some.injEq] at hc; subst hc; cases hk
  | next x s => simp only [compOp, compOpB, ho, Option.some.injEq] at hc; subst hc; cases hk
  | entry x => simp only [compOp, compOpB, ho, Option.some.injEq] at hc; subst hc; cases hk
  | load t x => simp only [compOp, compOpB, ho, bind, Option.bind_eq_some_iff, pure, Option.some.injEq] at hc; obtain ⟨_, _, _, _, rfl⟩ := hc; cases hk
  | build t ps =>
    simp only [compOp, compOpB, ho, bind, Option.bind_eq_some_iff] at hc
    obtain ⟨_, _, hc⟩ := hc
    split at hc
    · split at hc
      · simp only [Option.map_eq_some_iff] at hc; obtain ⟨_, _, rfl⟩ := hc; cases hk
      · cases hc
    · simp only [Option.bind_eq_some_iff, pure, Option.some.injEq] at hc; obtain ⟨_, _, _, _, rfl⟩ := hc; cases hk
    · cases hc
  | binOp op t x y u => simp only [compOp, compOpB, ho, bind, Option.bind_eq_some_iff, pure, Option.some.injEq] at hc; obtain ⟨_, _, rfl⟩ := hc; cases hk
  | makeInterface t x =>
    simp only [compOp, compOpB, ho] at hc
    split at hc <;> (try (cases hc; done))
    simp only [Option.some.injEq] at hc; subst hc; cases hk
  | makeFunc f a b => cases f <;> simp only [compOp, compOpB, ho, Option.some.injEq] at hc <;> (try (cases hc; done)); subst hc; cases hk
  | slice t x lo hi mx =>
    simp only [compOp, compOpB, ho] at hc
    split at hc <;> (try (cases hc; done))
    · split at hc
      · cases hc
      · simp only [Option.some.injEq] at hc; subst hc; cases hk
    · simp only [bind, Option.bind_eq_some_iff, pure, Option.some.injEq] at hc; obtain ⟨_, _, rfl⟩ := hc; cases hk
    · simp only [bind, Option.bind_eq_some_iff, pure, Option.some.injEq] at hc; obtain ⟨_, _, rfl⟩ := hc; cases hk
    · split at hc
      · simp only [bind, Option.bind_eq_some_iff, pure, Option.some.injEq] at hc; obtain ⟨_, _, rfl⟩ := hc; cases hk
      · cases hc
  | fieldAddr t x i =>
    simp only [compOp, compOpB, ho] at hc
    split at hc
    · simp only [bind, Option.bind_eq_some_iff] at hc
      obtain ⟨_, _, _, _, hc⟩ := hc
      split at hc
      · cases hc
      · simp only [pure, Option.some.injEq] at hc; subst hc; cases hk
    · cases hc
  | field t x i =>
    simp only [compOp, compOpB, ho] at hc
    split at hc
    · simp only [bind, Option.bind_eq_some_iff, pure, Option.some.injEq] at hc
      obtain ⟨_, _, _, _, _, _, rfl⟩ := hc
      cases hk
    · cases hc
  | indexAddr t x i =>
    simp only [compOp, compOpB, ho] at hc
    split at hc
    · simp only [bind, Option.bind_eq_some_iff, pure, Option.some.injEq] at hc; obtain ⟨_, _, rfl⟩ := hc; cases hk
    · simp only [bind, Option.bind_eq_some_iff, pure, Option.some.injEq] at hc; obtain ⟨_, _, rfl⟩ := hc; cases hk
    · cases hc
  | index t x i =>
    simp only [compOp, compOpB, ho] at hc
    split at hc
    · simp only [Option.some.injEq] at hc; subst hc; cases hk
    · simp only [bind, Option.bind_eq_some_iff, pure, Option.some.injEq] at hc; obtain ⟨_, _, _, _, rfl⟩ := hc; cases hk
    · cases hc
  | lookup t m k ok =>
    simp only [compOp, compOpB, ho] at hc
    split at hc
    · split at hc
      · simp only [Option.map_eq_some_iff] at hc; obtain ⟨_, _, rfl⟩ := hc; cases hk
      · cases hc
    · cases hc
  | typeAssert x xt t ok =>
    simp only [compOp, compOpB, ho] at hc
    split at hc <;> (try (cases hc; done))
    simp only [bind, Option.bind_eq_some_iff, pure, Option.some.injEq] at hc; obtain ⟨_, _, rfl⟩ := hc; cases hk
  | store t x y => simp only [compOp, compOpB, ho, bind, Option.bind_eq_some_iff, pure, Option.some.injEq] at hc; obtain ⟨_, _, rfl⟩ := hc; cases hk
  | mapUpdate t m k y =>
    simp only [compOp, compOpB, ho] at hc
    split at hc
    · simp only [Option.map_eq_some_iff] at hc; obtain ⟨_, _, rfl⟩ := hc; cases hk
    · cases hc
  | call c =>
    exfalso
    simp only [compOp, compOpB, ho] at hc
    split at hc
    · split at hc
      · split at hc
        · cases hc; cases hk
        · split at hc
          · cases hc; simp only [kindOf] at hk; split at hk <;> cases hk
          · cases hc
      · cases hc
    · cases hc; cases hk
    · cases hc
    · split at hc
      · simp only [bind, Option.bind_eq_some_iff] at hc
        obtain ⟨_, _, _, _, _, _, _, _, _, _, hc2⟩ := hc
        split at hc2
        · cases hc2
        · split at hc2 <;> (try (cases hc2; done)) <;> simp only [Option.bind_eq_some_iff, pure, Option.some.injEq] at hc2 <;> obtain ⟨_, _, rfl⟩ := hc2 <;> cases hk
      · simp only [bind, Option.bind_eq_some_iff] at hc
        obtain ⟨t, ht, hc2⟩ := hc
        split at hc2 <;> (try (cases hc2; done)) <;> (try (simp only [pure, Option.some.injEq] at hc2; subst hc2; cases hk; done))
        split at hc2
        · simp only [pure, Option.some.injEq] at hc2; subst hc2; cases hk
        · cases hc2
      · simp only [bind, Option.bind_eq_some_iff] at hc
        obtain ⟨t, ht, hc2⟩ := hc
        split at hc2
        · simp only [pure, Option.some.injEq] at hc2; subst hc2; cases hk
        · cases hc2
      · simp only [bind, Option.bind_eq_some_iff, pure, Option.some.injEq] at hc
        obtain ⟨_, _, _, _, _, _, rfl⟩ := hc
        cases hk
      · simp only [bind, Option.bind_eq_some_iff] at hc
        obtain ⟨_, _, hc2⟩ := hc
        split at hc2
        · simp only [Option.map_eq_some_iff] at hc2
          obtain ⟨_, _, rfl⟩ := hc2
          cases hk
        · cases hc2
      · simp only [bind, Option.bind_eq_some_iff] at hc
        obtain ⟨_, _, hc2⟩ := hc
        split at hc2
        · simp only [pure, Option.some.injEq] at hc2; subst hc2; cases hk
        · simp only [Option.bind_eq_some_iff, pure, Option.some.injEq] at hc2
          obtain ⟨_, _, rfl⟩ := hc2
          cases hk
        · cases hc2
      · simp only [Option.some.injEq] at hc; subst hc; cases hk
      · simp only [Option.some.injEq] at hc; subst hc; cases hk
      · simp only [bind, Option.bind_eq_some_iff] at hc
        obtain ⟨_, _, hc2⟩ := hc
        split at hc2
        · split at hc2
          · simp only [pure, Option.some.injEq] at hc2; subst hc2; cases hk
          · cases hc2
        · cases hc2
      · simp only [Option.some.injEq] at hc; subst hc; cases hk
      · cases hc
  | _ => simp only [compOp, compOpB, ho] at hc; cases hc
end
end Go.AM
end
