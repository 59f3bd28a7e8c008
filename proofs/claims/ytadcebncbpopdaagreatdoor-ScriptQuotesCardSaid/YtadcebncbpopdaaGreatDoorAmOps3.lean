/-
  AmOps3: a part of the abstract machine that stands for runs of the program in the model: no statement of the seat is in it.
-/
import Derived.Test.YtadcebncbpopdaaGreatDoorAmOps2
set_option linter.unusedSimpArgs false
noncomputable section
namespace Go.AM
section
variable {P : Program} {o : Oper} {aop : AOp} {tm : Tm} {ρ : Operand → Value} {μ : Mu} {v : AV} {g : G} {h h' : AH} {w w' : World} {callH : CallH}

theorem args_two {c : Call} {x y : Operand} (h : c.args.toList = [x, y]) : c.args = #[x, y] := by rw [← Array.toList_inj]; simp [h]

theorem eff_call {c : Call} (ho : o.op = .call c) (hnc : ∀ f xs, aop ≠ .call f xs) (hc : compOp P o = some aop) (hk : kindOf aop = .eff) (hr : OR μ tm ρ o) (s : St μ g h w) (he : evEff callH tm h aop = some (v, h')) : EffOk P o ρ μ g h w v h' := by
  cases hcal : c.callee with
  | value f =>
    exfalso
    cases f with
    | func f =>
      simp only [compOp, compOpB, ho, hcal] at hc
      split at hc
      · split at hc
        · cases hc; exact hnc _ _ rfl
        · split at hc
          · cases hc; simp only [kindOf] at hk; split at hk <;> cases hk
          · cases hc
      · cases hc
    | _ => simp only [compOp, compOpB, ho, hcal, Option.some.injEq] at hc; subst hc; exact hnc _ _ rfl
  | invoke r m => simp only [compOp, compOpB, ho, hcal] at hc; cases hc
  | builtin b =>
    have hc2 := hc
    simp only [compOp, compOpB, ho, hcal] at hc2
    split at hc2
    · rename_i hl
      exact ef_append ho hcal hl hc hr s he
    · simp only [bind, Option.bind_eq_some_iff] at hc2
      obtain ⟨t, ht, hc2⟩ := hc2
      split at hc2 <;> (try (cases hc2; done)) <;> (try (simp only [pure, Option.some.injEq] at hc2; subst hc2; cases hk; done))
      split at hc2
      · simp only [pure, Option.some.injEq] at hc2; subst hc2; cases hk
      · cases hc2
    · simp only [bind, Option.bind_eq_some_iff] at hc2
      obtain ⟨t, ht, hc2⟩ := hc2
      split at hc2
      · simp only [pure, Option.some.injEq] at hc2; subst hc2; cases hk
      · cases hc2
    · rename_i hl
      exact ef_copy ho hcal hl hc hr s he
    · rename_i hl
      exact ef_delete ho hcal hl hc hr s he
    · rename_i hl
      exact ef_clear ho hcal hl hc hr s he
    · simp only [Option.some.injEq] at hc2; subst hc2; cases hk
    · simp only [Option.some.injEq] at hc2; subst hc2; cases hk
    · rename_i hl
      exact ef_uString ho hcal hl hc hr s he
    · simp only [Option.some.injEq] at hc2; subst hc2; cases hk
    · cases hc2

theorem eff_all (hnc : ∀ f xs, aop ≠ .call f xs) (hc : compOp P o = some aop) (hk : kindOf aop = .eff) (hr : OR μ tm ρ o) (s : St μ g h w) (he : evEff callH tm h aop = some (v, h')) : EffOk P o ρ μ g h w v h' := by
  cases ho : o.op with
  | store t x y => exact ef_store ho hc hr s he
  | convert sT d x => exact ef_bytesSame ho hc hr s he
  | mapUpdate t m k y => exact ef_mapUpdate ho hc hr s he
  | range t x => exact ef_rangeMap ho hc hr s he
  | next x st => exact ef_next ho hc hr s he
  | call c => exact eff_call ho hnc hc hk hr s he
  | alloc e => simp only [compOp, compOpB, ho, Option.map_eq_some_iff] at hc; obtain ⟨_, _, rfl⟩ := hc; cases hk
  | box e x => simp only [compOp, compOpB, ho, Option.some.injEq] at hc; subst hc; cases hk
  | buildSlice t n ps =>
    simp only [compOp, compOpB, ho, bind, Option.bind_eq_some_iff] at hc
    obtain ⟨_, _, _, _, _, _, _, _, hc⟩ := hc
    split at hc
    · simp only [pure, Option.some.injEq] at hc; subst hc; cases hk
    · cases hc
  | makeMap t r =>
    simp only [compOp, compOpB, ho] at hc
    split at hc
    · simp only [Option.some.injEq] at hc; subst hc; cases hk
    · cases hc
  | makeSlice t l c =>
    simp only [compOp, compOpB, ho, bind, Option.bind_eq_some_iff] at hc
    obtain ⟨_, _, _, _, _, _, hc⟩ := hc
    split at hc
    · simp only [Option.bind_eq_some_iff, pure, Option.some.injEq] at hc; obtain ⟨_, _, rfl⟩ := hc; cases hk
    · cases hc
  | move x => simp only [compOp, compOpB, ho, Option.some.injEq] at hc; subst hc; cases hk
  | assign x => simp only [compOp, compOpB, ho, Option.some.injEq] at hc; subst hc; cases hk
  | pick c a b => simp only [compOp, compOpB, ho, Option.some.injEq] at hc; subst hc; cases hk
  | nilCheck x => simp only [compOp, compOpB, ho, Option.some.injEq] at hc; subst hc; cases hk
  | unOp op t x => simp only [compOp, compOpB, ho, Option.some.injEq] at hc; subst hc; cases hk
  | extract x i => simp only [compOp, compOpB, ho, Option.some.injEq] at hc; subst hc; cases hk
  | entry x => simp only [compOp, compOpB, ho, Option.some.injEq] at hc; subst hc; cases hk
  | load t x => simp only [compOp, compOpB, ho, bind, Option.bind_eq_some_iff, pure, Option.some.injEq] at hc; obtain ⟨_, _, _, _, rfl⟩ := hc; cases hk
  | build t ps =>
    simp only [compOp, compOpB, ho, bind, Option.bind_eq_some_iff] at hc
    obtain ⟨_, _, hc⟩ := hc
    split at hc
    · split at hc
      · simp only [Option.map_eq_some_iff] at hc; obtain ⟨_, _, rfl⟩ := hc; cases hk
      · cases hc
    · simp only [Option.bind_eq_some_iff, pure, Option.some.injEq] at hc; obtain ⟨_, _, _, _, rfl⟩ := hc; cases hk
    · cases hc
  | binOp op t x y u => simp only [compOp, compOpB, ho, bind, Option.bind_eq_some_iff, pure, Option.some.injEq] at hc; obtain ⟨_, _, rfl⟩ := hc; cases hk
  | makeInterface t x =>
    simp only [compOp, compOpB, ho] at hc
    split at hc <;> (try (cases hc; done))
    simp only [Option.some.injEq] at hc; subst hc; cases hk
  | makeFunc f a b => cases f <;> simp only [compOp, compOpB, ho, Option.some.injEq] at hc <;> (try (cases hc; done)); subst hc; cases hk
  | slice t x lo hi mx =>
    simp only [compOp, compOpB, ho] at hc
    split at hc <;> (try (cases hc; done))
    · split at hc
      · cases hc
      · simp only [Option.some.injEq] at hc; subst hc; cases hk
    · simp only [bind, Option.bind_eq_some_iff, pure, Option.some.injEq] at hc; obtain ⟨_, _, rfl⟩ := hc; cases hk
    · simp only [bind, Option.bind_eq_some_iff, pure, Option.some.injEq] at hc; obtain ⟨_, _, rfl⟩ := hc; cases hk
    · split at hc
      · simp only [bind, Option.bind_eq_some_iff, pure, Option.some.injEq] at hc; obtain ⟨_, _, rfl⟩ := hc; cases hk
      · cases hc
  | fieldAddr t x i =>
    simp only [compOp, compOpB, ho] at hc
    split at hc
    · simp only [bind, Option.bind_eq_some_iff] at hc
      obtain ⟨_, _, _, _, hc⟩ := hc
      split at hc
      · cases hc
      · simp only [pure, Option.some.injEq] at hc; subst hc; cases hk
    · cases hc
  | field t x i =>
    simp only [compOp, compOpB, ho] at hc
    split at hc
    · simp only [bind, Option.bind_eq_some_iff, pure, Option.some.injEq] at hc
      obtain ⟨_, _, _, _, _, _, rfl⟩ := hc
      cases hk
    · cases hc
  | indexAddr t x i =>
    simp only [compOp, compOpB, ho] at hc
    split at hc
    · simp only [bind, Option.bind_eq_some_iff, pure, Option.some.injEq] at hc; obtain ⟨_, _, rfl⟩ := hc; cases hk
    · simp only [bind, Option.bind_eq_some_iff, pure, Option.some.injEq] at hc; obtain ⟨_, _, rfl⟩ := hc; cases hk
    · cases hc
  | index t x i =>
    simp only [compOp, compOpB, ho] at hc
    split at hc
    · simp only [Option.some.injEq] at hc; subst hc; cases hk
    · simp only [bind, Option.bind_eq_some_iff, pure, Option.some.injEq] at hc; obtain ⟨_, _, _, _, rfl⟩ := hc; cases hk
    · cases hc
  | lookup t m k ok =>
    simp only [compOp, compOpB, ho] at hc
    split at hc
    · split at hc
      · simp only [Option.map_eq_some_iff] at hc; obtain ⟨_, _, rfl⟩ := hc; cases hk
      · cases hc
    · cases hc
  | typeAssert x xt t ok =>
    simp only [compOp, compOpB, ho] at hc
    split at hc <;> (try (cases hc; done))
    simp only [bind, Option.bind_eq_some_iff, pure, Option.some.injEq] at hc; obtain ⟨_, _, rfl⟩ := hc; cases hk
  | _ => simp only [compOp, compOpB, ho] at hc; cases hc

/-! ### calls -/
/-- The globals' blocks lie where the model has them. -/
def GlobOk (μ : Mu) : Prop := ∀ i, Nat.blt i NG = true → ∃ n, μ i = some ⟨i, 0, n⟩

theorem GlobOk.mono {μ μ' : Mu} (h : μ.le μ') (k : GlobOk μ) : GlobOk μ' := fun i hi => let ⟨n, e⟩ := k i hi; ⟨n, h _ _ e⟩

def CallOk (P : Program) (callH : CallH) : Prop := ∀ f args h v h', callH f args h = some (v, h') →
  (∃ fn, P.funcs[f]? = some fn ∧ fn.body.isNone = false ∧ (fn.name == "runtime.NumGoroutine") = false) ∧
  ∀ μ g w cargs, GlobOk μ → St μ g h w → VRs μ args cargs → Calls P f ⟨cargs⟩ w fun e w' => ∃ v' μ', e = .returned v' ∧ VR μ' v v' ∧ Post μ g h w h' w' μ'

theorem call_form {f : Operand} {xs : List Operand} (hc : compOp P o = some (.call f xs)) : ∃ c, o.op = .call c ∧ c.callee = .value f ∧ c.args.toList = xs := by
  cases ho : o.op with
  | call c =>
    refine ⟨c, rfl, ?_⟩
    cases hcal : c.callee with
    | value f' =>
      cases f' with
      | func f' =>
        simp only [compOp, compOpB, ho, hcal] at hc
        split at hc
        · split at hc
          · simp only [Option.some.injEq, AOp.call.injEq] at hc; obtain ⟨rfl, rfl⟩ := hc; exact ⟨rfl, rfl⟩
          · split at hc
            · cases hc
            · cases hc
        · cases hc
      | _ => simp only [compOp, compOpB, ho, hcal, Option.some.injEq, AOp.call.injEq] at hc; obtain ⟨rfl, rfl⟩ := hc; exact ⟨rfl, rfl⟩
    | invoke r m => simp only [compOp, compOpB, ho, hcal] at hc; cases hc
    | builtin b =>
      exfalso
      simp only [compOp, compOpB, ho, hcal] at hc
      split at hc
      · simp only [bind, Option.bind_eq_some_iff] at hc
        obtain ⟨_, _, _, _, _, _, _, _, _, _, hc2⟩ := hc
        split at hc2
        · cases hc2
        · split at hc2 <;> (try (cases hc2; done)) <;> simp only [Option.bind_eq_some_iff, pure, Option.some.injEq] at hc2 <;> obtain ⟨_, _, hc2⟩ := hc2 <;> cases hc2
      · simp only [bind, Option.bind_eq_some_iff] at hc
        obtain ⟨t, ht, hc2⟩ := hc
        split at hc2 <;> (try (cases hc2; done))
        split at hc2 <;> cases hc2
      · simp only [bind, Option.bind_eq_some_iff] at hc
        obtain ⟨t, ht, hc2⟩ := hc
        split at hc2 <;> cases hc2
      · simp only [bind, Option.bind_eq_some_iff, pure, Option.some.injEq] at hc
        obtain ⟨_, _, _, _, _, _, hc⟩ := hc
        cases hc
      · simp only [bind, Option.bind_eq_some_iff] at hc
        obtain ⟨_, _, hc2⟩ := hc
        split at hc2
        · simp only [Option.map_eq_some_iff] at hc2
          obtain ⟨_, _, hc2⟩ := hc2
          cases hc2
        · cases hc2
      · simp only [bind, Option.bind_eq_some_iff] at hc
        obtain ⟨_, _, hc2⟩ := hc
        split at hc2
        · cases hc2
        · simp only [Option.bind_eq_some_iff, pure, Option.some.injEq] at hc2
          obtain ⟨_, _, hc2⟩ := hc2
          cases hc2
        · cases hc2
      · cases hc
      · cases hc
      · simp only [bind, Option.bind_eq_some_iff] at hc
        obtain ⟨_, _, hc2⟩ := hc
        split at hc2
        · split at hc2 <;> cases hc2
        · cases hc2
      · cases hc
      · cases hc
  | alloc e => simp only [compOp, compOpB, ho, Option.map_eq_some_iff] at hc; obtain ⟨_, _, hc⟩ := hc; cases hc
  | load t x => simp only [compOp, compOpB, ho, bind, Option.bind_eq_some_iff, pure, Option.some.injEq] at hc; obtain ⟨_, _, _, _, hc⟩ := hc; cases hc
  | store t x y => simp only [compOp, compOpB, ho, bind, Option.bind_eq_some_iff, pure, Option.some.injEq] at hc; obtain ⟨_, _, hc⟩ := hc; cases hc
  | binOp op t x y u => simp only [compOp, compOpB, ho, bind, Option.bind_eq_some_iff, pure, Option.some.injEq] at hc; obtain ⟨_, _, hc⟩ := hc; cases hc
  | convert sT d x => simp only [compOp, compOpB, ho, bind, Option.bind_eq_some_iff, pure, Option.some.injEq] at hc; obtain ⟨_, _, hc⟩ := hc; cases hc
  | buildSlice t n ps =>
    simp only [compOp, compOpB, ho, bind, Option.bind_eq_some_iff] at hc
    obtain ⟨_, _, _, _, _, _, _, _, hc⟩ := hc
    split at hc <;> cases hc
  | makeMap t r =>
    simp only [compOp, compOpB, ho] at hc
    split at hc <;> cases hc
  | makeSlice t l c =>
    simp only [compOp, compOpB, ho, bind, Option.bind_eq_some_iff] at hc
    obtain ⟨_, _, _, _, _, _, hc⟩ := hc
    split at hc
    · simp only [Option.bind_eq_some_iff, pure, Option.some.injEq] at hc; obtain ⟨_, _, hc⟩ := hc; cases hc
    · cases hc
  | build t ps =>
    simp only [compOp, compOpB, ho, bind, Option.bind_eq_some_iff] at hc
    obtain ⟨_, _, hc⟩ := hc
    split at hc
    · split at hc
      · simp only [Option.map_eq_some_iff] at hc; obtain ⟨_, _, hc⟩ := hc; cases hc
      · cases hc
    · simp only [Option.bind_eq_some_iff, pure, Option.some.injEq] at hc; obtain ⟨_, _, _, _, hc⟩ := hc; cases hc
    · cases hc
  | makeInterface t x =>
    simp only [compOp, compOpB, ho] at hc
    split at hc <;> cases hc
  | makeFunc f a b => cases f <;> simp only [compOp, compOpB, ho, Option.some.injEq] at hc <;> cases hc
  | slice t x lo hi mx =>
    simp only [compOp, compOpB, ho] at hc
    split at hc <;> (try (cases hc; done))
    · split at hc <;> cases hc
    · simp only [bind, Option.bind_eq_some_iff, pure, Option.some.injEq] at hc; obtain ⟨_, _, hc⟩ := hc; cases hc
    · simp only [bind, Option.bind_eq_some_iff, pure, Option.some.injEq] at hc; obtain ⟨_, _, hc⟩ := hc; cases hc
    · split at hc
      · simp only [bind, Option.bind_eq_some_iff, pure, Option.some.injEq] at hc; obtain ⟨_, _, hc⟩ := hc; cases hc
      · cases hc
  | fieldAddr t x i =>
    simp only [compOp, compOpB, ho] at hc
    split at hc
    · simp only [bind, Option.bind_eq_some_iff] at hc
      obtain ⟨_, _, _, _, hc⟩ := hc
      split at hc <;> cases hc
    · cases hc
  | field t x i =>
    simp only [compOp, compOpB, ho] at hc
    split at hc
    · simp only [bind, Option.bind_eq_some_iff, pure, Option.some.injEq] at hc
      obtain ⟨_, _, _, _, _, _, hc⟩ := hc
      cases hc
    · cases hc
  | indexAddr t x i =>
    simp only [compOp, compOpB, ho] at hc
    split at hc
    · simp only [bind, Option.bind_eq_some_iff, pure, Option.some.injEq] at hc; obtain ⟨_, _, hc⟩ := hc; cases hc
    · simp only [bind, Option.bind_eq_some_iff, pure, Option.some.injEq] at hc; obtain ⟨_, _, hc⟩ := hc; cases hc
    · cases hc
  | index t x i =>
    simp only [compOp, compOpB, ho] at hc
    split at hc
    · cases hc
    · simp only [bind, Option.bind_eq_some_iff, pure, Option.some.injEq] at hc; obtain ⟨_, _, _, _, hc⟩ := hc; cases hc
    · cases hc
  | lookup t m k ok =>
    simp only [compOp, compOpB, ho] at hc
    split at hc
    · split at hc
      · simp only [Option.map_eq_some_iff] at hc; obtain ⟨_, _, hc⟩ := hc; cases hc
      · cases hc
    · cases hc
  | mapUpdate t m k y =>
    simp only [compOp, compOpB, ho] at hc
    split at hc
    · simp only [Option.map_eq_some_iff] at hc; obtain ⟨_, _, hc⟩ := hc; cases hc
    · cases hc
  | range t x =>
    simp only [compOp, compOpB, ho] at hc
    split at hc <;> cases hc
  | typeAssert x xt t ok =>
    simp only [compOp, compOpB, ho] at hc
    split at hc <;> (try (cases hc; done))
    simp only [bind, Option.bind_eq_some_iff, pure, Option.some.injEq] at hc; obtain ⟨_, _, hc⟩ := hc; cases hc
  | _ => simp only [compOp, compOpB, ho] at hc; cases hc

/-- One operation, run: what holds behind it. -/
def OpWp (P : Program) (o : Oper) (μ : Mu) (g : G) (h : AH) (w : World) (a : Act) (v : AV) (h' : AH) : Prop :=
  ∀ next Q, (∀ v' w' μ', VR μ' v v' → Post μ g h w h' w' μ' → next (a.put o.dst v') w') → o.wp P a w next Q

theorem fnOk_eval (a : Act) : FnOk a.eval := fun _ => rfl

theorem opwp_eff {a : Act} (hE : EffOk P o a.eval μ g h w v h') : OpWp P o μ g h w a v h' := by
  intro next Q hn
  obtain ⟨x, v', w', μ', hrun, hx, hv, hp⟩ := hE
  unfold Oper.wp
  rw [hrun]
  rcases hx with rfl | ⟨rfl, rfl⟩
  · exact hn _ _ _ hv hp
  · exact hn _ _ _ hv hp

theorem opwp_call {a : Act} (hC : CallOk P callH) (hg : GlobOk μ) {f : Operand} {xs : List Operand} (hc : compOp P o = some (.call f xs)) (hr : OR μ tm a.eval o) (s : St μ g h w) (he : evEff callH tm h (.call f xs) = some (v, h')) : OpWp P o μ g h w a v h' := by
  intro next Q hn
  obtain ⟨c, ho, hcal, hargs⟩ := call_form hc
  simp only [evEff, evEffB] at he
  split at he
  · rename_i fn fa fb vs hf hvs
    have hmem : ∀ x ∈ xs, x ∈ o.op.operands := by
      intro x hx
      rw [ho]
      simp only [Op.operands, Call.operands, hcal]
      exact Array.mem_append.2 (.inr (by rw [← hargs] at hx; exact Array.mem_toList_iff.1 hx))
    have hf' := hr f (by simp [ho, Op.operands, Call.operands, hcal]) _ hf
    have hvs' := opnds_VR (fun x hx => hr x (hmem x hx)) hvs
    simp only [VR] at hf'
    obtain ⟨a', b', e, ha, hb⟩ := hf'
    obtain ⟨⟨fd, hfd, hbody, hname⟩, hcalls⟩ := hC _ _ _ _ _ he
    have hc2 := hcalls μ g w _ hg s ((ha.append hvs').append hb)
    unfold Oper.wp
    have hrun : (execOp a.eval o).run P w = .ok (.enter fn ⟨a' ++ xs.map a.eval ++ b'⟩) w := by
      have hmap : c.args.map a.eval = ⟨xs.map a.eval⟩ := by rw [← Array.toList_inj]; simp [hargs]
      cases hbd : fd.body with
      | none => simp [hbd] at hbody
      | some bd => simp at hname; simp [execOp, ho, resolve, hcal, hmap, Deferred.ofValue, e, invoke, callFunc, hfd, hbd, hname]
    rw [hrun, Oper.upon_enter]
    refine Calls.mono hc2 ?_
    rintro e w' ⟨v', μ', rfl, hv, hp⟩
    exact hn _ _ _ hv hp
  · cases he

theorem opwp {a : Act} (hC : CallOk P callH) (hg : GlobOk μ) (hc : compOp P o = some aop) (hr : OR μ tm a.eval o) (s : St μ g h w) (he : evOp callH tm h aop = some (v, h')) : OpWp P o μ g h w a v h' := by
  unfold evOp at he
  split at he
  · rename_i hk
    split at he
    · rename_i u hu
      simp only [Option.some.injEq, Prod.mk.injEq] at he
      obtain ⟨rfl, rfl⟩ := he
      obtain ⟨v', hv, hrun⟩ := pure_all (fnOk_eval a) hc hk hr hu
      exact opwp_eff ⟨_, v', w, μ, hrun w, .inl rfl, hv, Post.refl s⟩
    · cases he
  · rename_i hk
    split at he
    · rename_i u hu
      simp only [Option.some.injEq, Prod.mk.injEq] at he
      obtain ⟨rfl, rfl⟩ := he
      obtain ⟨v', hv, hrun⟩ := read_all (fnOk_eval a) hc hk hr s hu
      exact opwp_eff ⟨_, v', w, μ, hrun, .inl rfl, hv, Post.refl s⟩
    · cases he
  · rename_i hk
    split at he
    · rename_i B f hu
      simp only [Option.some.injEq, Prod.mk.injEq] at he
      obtain ⟨rfl, rfl⟩ := he
      obtain ⟨obj, v', sz, w', hrun, hh, hos, ht, hout, hB⟩ := alloc_all (w := w) hc hk hr hu
      have hfr : μ h.next = none := by
        cases e : μ h.next with
        | none => rfl
        | some k => have := (s.sim.bnd _ _ e).1; omega
      obtain ⟨hBR, hVR⟩ := hB (μ.put h.next ⟨w.heap.size, 0, sz⟩) (Mu.le_put hfr)
      exact opwp_eff ⟨_, v', w', _, hrun, .inl rfl, hVR _ (by simp [Mu.put]), post_new s rfl hh hBR hos ht hout⟩
    · cases he
  · rename_i hk
    by_cases hcall : ∃ f xs, aop = .call f xs
    · obtain ⟨f, xs, rfl⟩ := hcall
      exact opwp_call hC hg hc hr s he
    · exact opwp_eff (eff_all (fun f xs e => hcall ⟨f, xs, e⟩) hc hk hr s he)
end
end Go.AM
end
