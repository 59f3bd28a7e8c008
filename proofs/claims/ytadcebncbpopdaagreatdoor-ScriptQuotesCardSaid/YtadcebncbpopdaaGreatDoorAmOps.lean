/-
  AmOps: a part of the abstract machine that stands for runs of the program in the model: no statement of the seat is in it.
-/
import Derived.Test.YtadcebncbpopdaaGreatDoorAmEff6
set_option linter.unusedSimpArgs false
noncomputable section
namespace Go.AM
section
variable {P : Program} {o : Oper} {aop : AOp} {tm : Tm} {ρ : Operand → Value} {μ : Mu} {v : AV} {g : G} {h h' : AH} {w w' : World} {callH : CallH}

/-- How a function's number reads as an operand. -/
def FnOk (ρ : Operand → Value) : Prop := ∀ f, ρ (.func f) = .func (.func f) #[] #[]

theorem args_one {c : Call} {x : Operand} (h : c.args.toList = [x]) : c.args = #[x] := by rw [← Array.toList_inj]; simp [h]

theorem pure_call {c : Call} (ho : o.op = .call c) (hf : FnOk ρ) (hc : compOp P o = some aop) (hk : kindOf aop = .pure) (hr : OR μ tm ρ o) (he : evPure tm aop = some v) : PureOk P o ρ μ v := by
  cases hcal : c.callee with
  | value f =>
    cases f with
    | func f =>
      have hc2 := hc
      simp only [compOp, compOpB, ho, hcal] at hc2
      split at hc2
      · split at hc2
        · cases hc2; cases hk
        · split at hc2
          · cases hc2
            exact p_ext ho hcal (hf f) hc hk hr he
          · cases hc2
      · cases hc2
    | _ => simp only [compOp, compOpB, ho, hcal, Option.some.injEq] at hc; subst hc; cases hk
  | invoke r m => simp only [compOp, compOpB, ho, hcal] at hc; cases hc
  | builtin b =>
    have hc2 := hc
    simp only [compOp, compOpB, ho, hcal] at hc2
    split at hc2
    · simp only [bind, Option.bind_eq_some_iff] at hc2
      obtain ⟨_, _, _, _, _, _, _, _, _, _, hc2⟩ := hc2
      split at hc2
      · cases hc2
      · split at hc2 <;> (try (cases hc2; done)) <;> simp only [Option.bind_eq_some_iff, pure, Option.some.injEq] at hc2 <;> obtain ⟨_, _, rfl⟩ := hc2 <;> cases hk
    · rename_i x hl
      exact p_lenArr ho hcal hl hc hk he
    · rename_i x hl
      simp only [bind, Option.bind_eq_some_iff] at hc2
      obtain ⟨t, ht, hc2⟩ := hc2
      split at hc2
      · rename_i e hu
        simp only [pure, Option.some.injEq] at hc2
        subst hc2
        exact p_capOf ho hcal (args_one hl) ht hu hr he
      · cases hc2
    · simp only [bind, Option.bind_eq_some_iff, pure, Option.some.injEq] at hc2
      obtain ⟨_, _, _, _, _, _, rfl⟩ := hc2
      cases hk
    · simp only [bind, Option.bind_eq_some_iff] at hc2
      obtain ⟨_, _, hc2⟩ := hc2
      split at hc2
      · simp only [Option.map_eq_some_iff] at hc2
        obtain ⟨_, _, rfl⟩ := hc2
        cases hk
      · cases hc2
    · simp only [bind, Option.bind_eq_some_iff] at hc2
      obtain ⟨_, _, hc2⟩ := hc2
      split at hc2
      · simp only [pure, Option.some.injEq] at hc2; subst hc2; cases hk
      · simp only [Option.bind_eq_some_iff, pure, Option.some.injEq] at hc2
        obtain ⟨_, _, rfl⟩ := hc2
        cases hk
      · cases hc2
    · simp only [Option.some.injEq] at hc2
      subst hc2
      exact p_minmax (isMin := true) ho (by simpa using hcal) hr he
    · simp only [Option.some.injEq] at hc2
      subst hc2
      exact p_minmax (isMin := false) ho (by simpa using hcal) hr he
    · simp only [bind, Option.bind_eq_some_iff] at hc2
      obtain ⟨_, _, hc2⟩ := hc2
      split at hc2
      · split at hc2
        · simp only [pure, Option.some.injEq] at hc2; subst hc2; cases hk
        · cases hc2
      · cases hc2
    · rename_i x hl
      simp only [Option.some.injEq] at hc2
      subst hc2
      exact p_uSliceData ho hcal (args_one hl) hr he
    · cases hc2

theorem pure_all (hf : FnOk ρ) (hc : compOp P o = some aop) (hk : kindOf aop = .pure) (hr : OR μ tm ρ o) (he : evPure tm aop = some v) : PureOk P o ρ μ v := by
  cases ho : o.op with
  | move x => exact p_move ho hc hr he
  | assign x => exact p_assign ho hc hr he
  | pick c a b => exact p_pick ho hc hr he
  | build t ps => exact p_build ho hc hr he
  | nilCheck x => exact p_nilCheck ho hc hr he
  | binOp op t x y u => exact p_bin ho hc hr he
  | unOp op t x => exact p_un ho hc hr he
  | convert s d x => exact p_conv ho hc hr he
  | makeInterface t x => exact p_mkIface ho hc hr he
  | makeFunc f a b => exact p_mkFunc ho hc hr he
  | slice t x lo hi mx =>
    have hc2 := hc
    simp only [compOp, compOpB, ho] at hc2
    split at hc2
    · rename_i hu; exact p_sliceStr ho hu hc hr he
    · rename_i e hu; exact p_sliceSl ho hu hc hr he
    · simp only [bind, Option.bind_eq_some_iff, pure, Option.some.injEq] at hc2; obtain ⟨_, _, rfl⟩ := hc2; cases hk
    · split at hc2
      · simp only [bind, Option.bind_eq_some_iff, pure, Option.some.injEq] at hc2; obtain ⟨_, _, rfl⟩ := hc2; cases hk
      · cases hc2
    · cases hc2
  | fieldAddr t x i => exact p_fieldAddr ho hc hr he
  | field t x i => exact p_field ho hc hr he
  | indexAddr t x i => exact p_idxAddr ho hc hr he
  | index t x i =>
    have hc2 := hc
    simp only [compOp, compOpB, ho] at hc2
    split at hc2
    · rename_i hu; exact p_idxStr ho hu hc hr he
    · rename_i n e hu; exact p_idxArr ho hu hc hr he
    · cases hc2
  | typeAssert x xt t ok => exact p_tassert ho hc hr he
  | extract x i => exact p_extract ho hc hr he
  | call c => exact pure_call ho hf hc hk hr he
  | alloc e => simp only [compOp, compOpB, ho, Option.map_eq_some_iff] at hc; obtain ⟨_, _, rfl⟩ := hc; cases hk
  | box e x => simp only [compOp, compOpB, ho, Option.some.injEq] at hc; subst hc; cases hk
  | buildSlice t n ps =>
    simp only [compOp, compOpB, ho, bind, Option.bind_eq_some_iff] at hc
    obtain ⟨_, _, _, _, _, _, _, _, hc⟩ := hc
    split at hc
    · simp only [pure, Option.some.injEq] at hc; subst hc; cases hk
    · cases hc
  | load t x => simp only [compOp, compOpB, ho, bind, Option.bind_eq_some_iff, pure, Option.some.injEq] at hc; obtain ⟨_, _, _, _, rfl⟩ := hc; cases hk
  | store t x y => simp only [compOp, compOpB, ho, bind, Option.bind_eq_some_iff, pure, Option.some.injEq] at hc; obtain ⟨_, _, rfl⟩ := hc; cases hk
  | makeMap t r =>
    simp only [compOp, compOpB, ho] at hc
    split at hc
    · simp only [Option.some.injEq] at hc; subst hc; cases hk
    · cases hc
  | makeSlice t l c =>
    simp only [compOp, compOpB, ho, bind, Option.bind_eq_some_iff] at hc
    obtain ⟨_, _, _, _, _, _, hc⟩ := hc
    split at hc
    · simp only [Option.bind_eq_some_iff, pure, Option.some.injEq] at hc; obtain ⟨_, _, rfl⟩ := hc; cases hk
    · cases hc
  | lookup t m k ok =>
    simp only [compOp, compOpB, ho] at hc
    split at hc
    · split at hc
      · simp only [Option.map_eq_some_iff] at hc; obtain ⟨_, _, rfl⟩ := hc; cases hk
      · cases hc
    · cases hc
  | mapUpdate t m k y =>
    simp only [compOp, compOpB, ho] at hc
    split at hc
    · simp only [Option.map_eq_some_iff] at hc; obtain ⟨_, _, rfl⟩ := hc; cases hk
    · cases hc
  | range t x =>
    simp only [compOp, compOpB, ho] at hc
    split at hc <;> (try (cases hc; done)) <;> simp only [Option.some.injEq] at hc <;> subst hc <;> cases hk
  | next x s => simp only [compOp, compOpB, ho, Option.some.injEq] at hc; subst hc; cases hk
  | entry x => simp only [compOp, compOpB, ho, Option.some.injEq] at hc; subst hc; cases hk
  | _ => simp only [compOp, compOpB, ho] at hc; cases hc

theorem read_call {c : Call} (ho : o.op = .call c) (hf : FnOk ρ) (hc : compOp P o = some aop) (hk : kindOf aop = .read) (hr : OR μ tm ρ o) (s : St μ g h w) (he : evRead tm h aop = some v) : ReadOk P o ρ μ v w := by
  cases hcal : c.callee with
  | value f =>
    cases f with
    | func f =>
      have hc2 := hc
      simp only [compOp, compOpB, ho, hcal] at hc2
      split at hc2
      · split at hc2
        · cases hc2; cases hk
        · split at hc2
          · cases hc2
            exact rd_ext ho hcal (hf f) hc hr s he
          · cases hc2
      · cases hc2
    | _ => simp only [compOp, compOpB, ho, hcal, Option.some.injEq] at hc; subst hc; cases hk
  | invoke r m => simp only [compOp, compOpB, ho, hcal] at hc; cases hc
  | builtin b =>
    have hc2 := hc
    simp only [compOp, compOpB, ho, hcal] at hc2
    split at hc2
    · simp only [bind, Option.bind_eq_some_iff] at hc2
      obtain ⟨_, _, _, _, _, _, _, _, _, _, hc2⟩ := hc2
      split at hc2
      · cases hc2
      · split at hc2 <;> (try (cases hc2; done)) <;> simp only [Option.bind_eq_some_iff, pure, Option.some.injEq] at hc2 <;> obtain ⟨_, _, rfl⟩ := hc2 <;> cases hk
    · rename_i x hl
      exact rd_lenOf ho hcal hl hc hk hr s he
    · simp only [bind, Option.bind_eq_some_iff] at hc2
      obtain ⟨t, ht, hc2⟩ := hc2
      split at hc2
      · simp only [pure, Option.some.injEq] at hc2; subst hc2; cases hk
      · cases hc2
    · simp only [bind, Option.bind_eq_some_iff, pure, Option.some.injEq] at hc2
      obtain ⟨_, _, _, _, _, _, rfl⟩ := hc2
      cases hk
    · simp only [bind, Option.bind_eq_some_iff] at hc2
      obtain ⟨_, _, hc2⟩ := hc2
      split at hc2
      · simp only [Option.map_eq_some_iff] at hc2
        obtain ⟨_, _, rfl⟩ := hc2
        cases hk
      · cases hc2
    · simp only [bind, Option.bind_eq_some_iff] at hc2
      obtain ⟨_, _, hc2⟩ := hc2
      split at hc2
      · simp only [pure, Option.some.injEq] at hc2; subst hc2; cases hk
      · simp only [Option.bind_eq_some_iff, pure, Option.some.injEq] at hc2
        obtain ⟨_, _, rfl⟩ := hc2
        cases hk
      · cases hc2
    · simp only [Option.some.injEq] at hc2; subst hc2; cases hk
    · simp only [Option.some.injEq] at hc2; subst hc2; cases hk
    · simp only [bind, Option.bind_eq_some_iff] at hc2
      obtain ⟨_, _, hc2⟩ := hc2
      split at hc2
      · split at hc2
        · simp only [pure, Option.some.injEq] at hc2; subst hc2; cases hk
        · cases hc2
      · cases hc2
    · simp only [Option.some.injEq] at hc2; subst hc2; cases hk
    · cases hc2

theorem conv_kind {s d : TypeId} {x : Operand} (ho : o.op = .convert s d x) (hc : compOp P o = some aop) : ∃ c, aop = .conv c x := by
  simp only [compOp, compOpB, ho, bind, Option.bind_eq_some_iff, pure, Option.some.injEq] at hc
  obtain ⟨c, _, rfl⟩ := hc
  exact ⟨c, rfl⟩

theorem read_all (hf : FnOk ρ) (hc : compOp P o = some aop) (hk : kindOf aop = .read) (hr : OR μ tm ρ o) (s : St μ g h w) (he : evRead tm h aop = some v) : ReadOk P o ρ μ v w := by
  cases ho : o.op with
  | load t x => exact rd_load ho hc hr s he
  | convert sT d x => exact rd_conv ho hc hr s he
  | slice t x lo hi mx =>
    refine rd_sliceArr ho (fun e hu => ?_) hc hk hr s he
    simp only [compOp, compOpB, ho, hu, bind, Option.bind_eq_some_iff, pure, Option.some.injEq] at hc
    obtain ⟨_, _, rfl⟩ := hc
    cases hk
  | lookup t m k ok => exact rd_lookup ho hc hr s he
  | entry x => exact rd_entry ho hc hr s he
  | call c => exact read_call ho hf hc hk hr s he
  | move x => simp only [compOp, compOpB, ho, Option.some.injEq] at hc; subst hc; cases hk
  | assign x => simp only [compOp, compOpB, ho, Option.some.injEq] at hc; subst hc; cases hk
  | pick c a b => simp only [compOp, compOpB, ho, Option.some.injEq] at hc; subst hc; cases hk
  | nilCheck x => simp only [compOp, compOpB, ho, Option.some.injEq] at hc; subst hc; cases hk
  | unOp op t x => simp only [compOp, compOpB, ho, Option.some.injEq] at hc; subst hc; cases hk
  | extract x i => simp only [compOp, compOpB, ho, Option.some.injEq] at hc; subst hc; cases hk
  | box e x => simp only [compOp, compOpB, ho, Option.some.injEq] at hc; subst hc; cases hk
  | next x s => simp only [compOp, compOpB, ho, Option.some.injEq] at hc; subst hc; cases hk
  | alloc e => simp only [compOp, compOpB, ho, Option.map_eq_some_iff] at hc; obtain ⟨_, _, rfl⟩ := hc; cases hk
  | build t ps =>
    simp only [compOp, compOpB, ho, bind, Option.bind_eq_some_iff] at hc
    obtain ⟨_, _, hc⟩ := hc
    split at hc
    · split at hc
      · simp only [Option.map_eq_some_iff] at hc; obtain ⟨_, _, rfl⟩ := hc; cases hk
      · cases hc
    · simp only [Option.bind_eq_some_iff, pure, Option.some.injEq] at hc; obtain ⟨_, _, _, _, rfl⟩ := hc; cases hk
    · cases hc
  | binOp op t x y u => simp only [compOp, compOpB, ho, bind, Option.bind_eq_some_iff, pure, Option.some.injEq] at hc; obtain ⟨_, _, rfl⟩ := hc; cases hk
  | makeInterface t x =>
    simp only [compOp, compOpB, ho] at hc
    split at hc <;> (try (cases hc; done))
    simp only [Option.some.injEq] at hc; subst hc; cases hk
  | makeFunc f a b => cases f <;> simp only [compOp, compOpB, ho, Option.some.injEq] at hc <;> (try (cases hc; done)); subst hc; cases hk
  | fieldAddr t x i =>
    simp only [compOp, compOpB, ho] at hc
    split at hc
    · simp only [bind, Option.bind_eq_some_iff] at hc
      obtain ⟨_, _, _, _, hc⟩ := hc
      split at hc
      · cases hc
      · simp only [pure, Option.some.injEq] at hc; subst hc; cases hk
    · cases hc
  | field t x i =>
    simp only [compOp, compOpB, ho] at hc
    split at hc
    · simp only [bind, Option.bind_eq_some_iff, pure, Option.some.injEq] at hc
      obtain ⟨_, _, _, _, _, _, rfl⟩ := hc
      cases hk
    · cases hc
  | indexAddr t x i =>
    simp only [compOp, compOpB, ho] at hc
    split at hc
    · simp only [bind, Option.bind_eq_some_iff, pure, Option.some.injEq] at hc; obtain ⟨_, _, rfl⟩ := hc; cases hk
    · simp only [bind, Option.bind_eq_some_iff, pure, Option.some.injEq] at hc; obtain ⟨_, _, rfl⟩ := hc; cases hk
    · cases hc
  | index t x i =>
    simp only [compOp, compOpB, ho] at hc
    split at hc
    · simp only [Option.some.injEq] at hc; subst hc; cases hk
    · simp only [bind, Option.bind_eq_some_iff, pure, Option.some.injEq] at hc; obtain ⟨_, _, _, _, rfl⟩ := hc; cases hk
    · cases hc
  | typeAssert x xt t ok =>
    simp only [compOp, compOpB, ho] at hc
    split at hc <;> (try (cases hc; done))
    simp only [bind, Option.bind_eq_some_iff, pure, Option.some.injEq] at hc; obtain ⟨_, _, rfl⟩ := hc; cases hk
  | buildSlice t n ps =>
    simp only [compOp, compOpB, ho, bind, Option.bind_eq_some_iff] at hc
    obtain ⟨_, _, _, _, _, _, _, _, hc⟩ := hc
    split at hc
    · simp only [pure, Option.some.injEq] at hc; subst hc; cases hk
    · cases hc
  | store t x y => simp only [compOp, compOpB, ho, bind, Option.bind_eq_some_iff, pure, Option.some.injEq] at hc; obtain ⟨_, _, rfl⟩ := hc; cases hk
  | makeMap t r =>
    simp only [compOp, compOpB, ho] at hc
    split at hc
    · simp only [Option.some.injEq] at hc; subst hc; cases hk
    · cases hc
  | makeSlice t l c =>
    simp only [compOp, compOpB, ho, bind, Option.bind_eq_some_iff] at hc
    obtain ⟨_, _, _, _, _, _, hc⟩ := hc
    split at hc
    · simp only [Option.bind_eq_some_iff, pure, Option.some.injEq] at hc; obtain ⟨_, _, rfl⟩ := hc; cases hk
    · cases hc
  | mapUpdate t m k y =>
    simp only [compOp, compOpB, ho] at hc
    split at hc
    · simp only [Option.map_eq_some_iff] at hc; obtain ⟨_, _, rfl⟩ := hc; cases hk
    · cases hc
  | range t x =>
    simp only [compOp, compOpB, ho] at hc
    split at hc <;> (try (cases hc; done)) <;> simp only [Option.some.injEq] at hc <;> subst hc <;> cases hk
  | _ => simp only [compOp, compOpB, ho] at hc; cases hc
end
end Go.AM
end
