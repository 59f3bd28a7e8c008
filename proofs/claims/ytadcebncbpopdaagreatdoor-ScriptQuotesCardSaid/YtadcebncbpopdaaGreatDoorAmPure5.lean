/-
  AmPure5: a part of the abstract machine that stands for runs of the program in the model: no statement of the seat is in it.
-/
import Derived.Test.YtadcebncbpopdaaGreatDoorAmPure4
import Derived.Laws.Externs
set_option linter.unusedSimpArgs false
noncomputable section
namespace Go.AM
section
variable {P : Program} {o : Oper} {aop : AOp} {tm : Tm} {ρ : Operand → Value} {μ : Mu} {v : AV}

theorem p_conv {s d : TypeId} {x : Operand} (ho : o.op = .convert s d x) (hc : compOp P o = some aop) (hr : OR μ tm ρ o) (he : evPure tm aop = some v) : PureOk P o ρ μ v := by
  simp only [compOp, compOpB, ho, bind, Option.bind_eq_some_iff, pure, Option.some.injEq] at hc
  obtain ⟨c, hcv, rfl⟩ := hc
  unfold compConv at hcv
  simp only [evPure, evPureB] at he
  split at he <;> (try (cases he; done)) <;> rename_i hx <;> have a1 := hr x (by simp [ho, Op.operands]) _ hx <;> simp only [VR] at a1 <;> simp only [Option.some.injEq] at he <;> subst he
  · split at hcv <;> (try split at hcv) <;> (try (cases hcv; done))
    rename_i h1 h2
    cases hcv
    refine ⟨_, vr_int, fun w => ?_⟩
    simp [execOp, ho, a1, convert, r_und h1, r_und h2, Conv.intToInt]
  · split at hcv <;> (try split at hcv) <;> (try (cases hcv; done))
    rename_i h1 h2
    refine ⟨_, vr_str, fun w => ?_⟩
    simp [execOp, ho, a1, convert, r_und h1, r_und h2]
  · split at hcv <;> (try split at hcv) <;> (try (cases hcv; done))
    rename_i h1 h2
    refine ⟨_, vr_str, fun w => ?_⟩
    simp [execOp, ho, a1, convert, r_und h1, r_und h2, Conv.intToString]

theorem p_tassert {x : Operand} {xt t : TypeId} {ok : Bool} (ho : o.op = .typeAssert x xt t ok) (hc : compOp P o = some aop) (hr : OR μ tm ρ o) (he : evPure tm aop = some v) : PureOk P o ρ μ v := by
  simp only [compOp, compOpB, ho] at hc
  split at hc
  · cases hc
  · rename_i d hni hu
    simp only [bind, Option.bind_eq_some_iff, pure, Option.some.injEq] at hc
    obtain ⟨z, hz, rfl⟩ := hc
    have hzero : ∃ zv, VR μ z zv ∧ ∀ w, (zeroValue t).run P w = .ok zv w := by
      unfold zeroVal at hz
      simp only [bind, Option.bind_eq_some_iff] at hz
      obtain ⟨i, hi, zv, hzv, h⟩ := hz
      exact ⟨zv, avWhole_VR h, fun w => by simp [zeroValue, typeInfo, hi, hzv]⟩
    obtain ⟨zv, hzR, hzw⟩ := hzero
    simp only [evPure, evPureB] at he
    split at he
    · rename_i u a hx
      have a1 := hr x (by simp [ho, Op.operands]) _ hx
      simp only [VR] at a1
      obtain ⟨y, e1, hy⟩ := a1
      split at he
      · rename_i hut
        subst hut
        simp only [Option.some.injEq] at he
        subst he
        cases ok
        · refine ⟨y, by simpa using hy, fun w => ?_⟩
          cases d <;> first | exact absurd rfl (hni _) | simp [execOp, ho, e1, Instr.typeAssert, r_und hu]
        · refine ⟨.tuple #[y, .bool true], ⟨_, rfl, _, _, rfl, hy, _, _, rfl, vr_bool, rfl⟩, fun w => ?_⟩
          cases d <;> first | exact absurd rfl (hni _) | simp [execOp, ho, e1, Instr.typeAssert, r_und hu]
      · rename_i hut
        split at he
        · rename_i hok
          simp only [Option.some.injEq] at he
          subst he
          refine ⟨.tuple #[zv, .bool false], ⟨_, rfl, _, _, rfl, hzR, _, _, rfl, vr_bool, rfl⟩, fun w => ?_⟩
          cases d <;> first | exact absurd rfl (hni _) | simp [execOp, ho, e1, Instr.typeAssert, r_und hu, hut, hok, hzw]
        · cases he
    · rename_i hx
      have a1 := hr x (by simp [ho, Op.operands]) _ hx
      simp only [VR] at a1
      split at he
      · rename_i hok
        simp only [Option.some.injEq] at he
        subst he
        refine ⟨.tuple #[zv, .bool false], ⟨_, rfl, _, _, rfl, hzR, _, _, rfl, vr_bool, rfl⟩, fun w => ?_⟩
        cases d <;> first | exact absurd rfl (hni _) | simp [execOp, ho, a1, Instr.typeAssert, r_und hu, hok, hzw]
      · cases he
    · cases he
  · cases hc

theorem boundA_ok {x : Option AV} {y dflt b : Nat} {x' : Option Value} {code : BoundsCode} (hv : ∀ a, x = some a → ∃ v, x' = some v ∧ VR μ a v) (hn : x = none → x' = none) (he : boundA x y dflt = some b) :
    (x = none ∧ x' = none ∧ b = dflt) ∨ (∃ k i, x' = some (.int k i) ∧ 0 ≤ i ∧ i ≤ y ∧ b = i.toNat ∧ ∀ w, (Instr.sliceBound (.int k i) y code).run P w = .ok b w) := by
  cases x with
  | none =>
    simp only [boundA, Option.some.injEq] at he
    exact .inl ⟨rfl, hn rfl, he.symm⟩
  | some u =>
    cases u <;> simp only [boundA] at he <;> (try (cases he; done))
    rename_i k i
    split at he
    · rename_i hb
      simp only [Option.some.injEq] at he
      obtain ⟨v', hv1, hv2⟩ := hv _ rfl
      simp only [VR] at hv2
      subst hv2 he
      exact .inr ⟨k, i, hv1, hb.1, hb.2, rfl, fun w => run_sliceBound (P := P) (w := w) k i y code hb.1 hb.2⟩
    · cases he

theorem optOpnd_ok {x : Option Operand} {a : Option AV} (hr : ∀ y, x = some y → ∀ a, opnd tm y = some a → VR μ a (ρ y)) (h : optOpnd tm x = some a) :
    (∀ b, a = some b → ∃ v, x.map ρ = some v ∧ VR μ b v) ∧ (a = none → x.map ρ = none) := by
  cases x with
  | none =>
    simp only [optOpnd, Option.some.injEq] at h
    subst h
    exact ⟨fun b hb => (by cases hb), fun _ => rfl⟩
  | some y =>
    simp only [optOpnd, Option.map_eq_some_iff] at h
    obtain ⟨b, hb, rfl⟩ := h
    exact ⟨fun b' hb' => (by cases hb'; exact ⟨ρ y, rfl, hr y rfl b hb⟩), fun h => (by cases h)⟩

/-- the bounds without a third -/
theorem bounds2 {isS : Bool} {len cap l h : Nat} {lo hi : Option AV} {lo' hi' : Option Value} (hl : ∀ a, lo = some a → ∃ v, lo' = some v ∧ VR μ a v) (hln : lo = none → lo' = none)
    (hh : ∀ a, hi = some a → ∃ v, hi' = some v ∧ VR μ a v) (hhn : hi = none → hi' = none) {cap' : Nat} (hcc : cap ≤ cap') (e1 : boundA hi cap len = some h) (e2 : boundA lo h 0 = some l) :
    l ≤ h ∧ (h = len ∨ h ≤ cap) ∧ ∀ w, (Instr.sliceBounds isS len cap' lo' hi' none).run P w = .ok (l, h, cap') w := by
  have le : l ≤ h := by
    rcases boundA_ok (P := P) (code := .index) hl hln e2 with ⟨_, _, rfl⟩ | ⟨k, i, _, h0, h1, rfl, _⟩
    · omega
    · omega
  refine ⟨le, ?_, fun w => ?_⟩
  · rcases boundA_ok (P := P) (code := .index) hh hhn e1 with ⟨_, _, rfl⟩ | ⟨k, i, _, h0, h1, rfl, _⟩
    · exact .inl rfl
    · right; omega
  · rcases boundA_ok (P := P) (code := .index) hh hhn e1 with ⟨_, e, rfl⟩ | ⟨k, i, e, h0, h1, rfl, _⟩
    · rcases boundA_ok (P := P) (code := .sliceB) hl hln e2 with ⟨_, f, rfl⟩ | ⟨k2, i2, f, _, _, rfl, hw⟩
      · simp [Instr.sliceBounds, e, f]
      · simp [Instr.sliceBounds, e, f, hw]
    · have hb : ∀ code, (Instr.sliceBound (.int k i) cap' code).run P w = .ok i.toNat w := fun code => run_sliceBound (P := P) (w := w) k i cap' code h0 (by omega)
      rcases boundA_ok (P := P) (code := .sliceB) hl hln e2 with ⟨_, f, rfl⟩ | ⟨k2, i2, f, _, _, rfl, hw⟩
      · simp [Instr.sliceBounds, e, f, hb]
      · simp [Instr.sliceBounds, e, f, hw, hb]

theorem p_sliceStr {t : TypeId} {x : Operand} {lo hi mx : Option Operand} (ho : o.op = .slice t x lo hi mx) (hu : P.underlying t = some .string) (hc : compOp P o = some aop) (hr : OR μ tm ρ o) (he : evPure tm aop = some v) : PureOk P o ρ μ v := by
  simp only [compOp, compOpB, ho, hu] at hc
  split at hc
  · cases hc
  rename_i hmx
  have hmx : mx = none := by cases mx <;> simp_all
  simp only [Option.some.injEq] at hc
  subst hc hmx
  simp only [evPure, evPureB] at he
  split at he
  · rename_i s lo1 hi1 h1 h2 h3
    have a1 := hr x (by simp [ho, Op.operands]) _ h1
    simp only [VR] at a1
    obtain ⟨l1, l2⟩ := optOpnd_ok (ρ := ρ) (fun y hy a ha => hr y (by simp [ho, Op.operands, hy]) a ha) h2
    obtain ⟨g1, g2⟩ := optOpnd_ok (ρ := ρ) (fun y hy a ha => hr y (by simp [ho, Op.operands, hy]) a ha) h3
    split at he
    · rename_i b hb
      split at he
      · rename_i a ha
        simp only [Option.some.injEq] at he
        subst he
        obtain ⟨hle, _, hw⟩ := bounds2 (P := P) (isS := false) l1 l2 g1 g2 (Nat.le_refl _) hb ha
        refine ⟨_, vr_str, fun w => ?_⟩
        have hsz : (⟨s.toArray⟩ : ByteArray).size = s.length := by simp [ByteArray.size]
        simp only [execOp, ho, Instr.sliceAt, Sem.run_bind, r_und hu, Result.andThen_ok, Instr.slice, a1, Option.map_none, Option.isSome_none, Bool.false_eq_true, if_false, hsz, hw, Sem.run_pure]
        congr 2
        congr 1
        congr 1
        ext1
        simp [ByteArray.data_extract, List.extract_eq_take_drop]
      · cases he
    · cases he
  · cases he
end
end Go.AM
end
