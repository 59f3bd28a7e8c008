/-
  AmPure3: a part of the abstract machine that stands for runs of the program in the model: no statement of the seat is in it.
-/
import Derived.Test.YtadcebncbpopdaaGreatDoorAmPure2
set_option linter.unusedSimpArgs false
noncomputable section
namespace Go.AM
section
variable {P : Program} {o : Oper} {aop : AOp} {tm : Tm} {ρ : Operand → Value} {μ : Mu} {v : AV}

theorem guard_other {op : BinOp} {t : TypeId} {x y : Operand} {a b : Value} (h : op ≠ .eql ∧ op ≠ .neq) (w : World) : (eqGuard op t x y a b).run P w = .ok () w := by
  cases op <;> simp_all [eqGuard]

def BinOk (P : Program) (op : BinOp) (t : TypeId) (x y : Operand) (a' b' : Value) (μ : Mu) (v : AV) : Prop :=
  ∃ v', VR μ v v' ∧ ∀ w, (do eqGuard op t x y a' b'; binOp op t a' b').run P w = .ok v' w

theorem b_arith {op : BinOp} {t : TypeId} {x y : Operand} {a b : AV} {a' b' : Value} (ha : VR μ a a') (hb : VR μ b b') (he : arithA op a b = some v) : BinOk P op t x y a' b' μ v := by
  unfold arithA at he
  split at he
  · rename_i k p l q
    simp only [VR] at ha hb
    subst ha hb
    split at he <;> try (cases he; done)
    rename_i hkl
    subst hkl
    split at he <;> (try (cases he; done)) <;> simp only [Option.some.injEq] at he
    all_goals
      subst he
      refine ⟨_, vr_int, fun w => ?_⟩
      simp [guard_other, binOp, Op.intArith]
  · rename_i p q
    simp only [VR] at ha hb
    subst ha hb
    split at he <;> try (cases he; done)
    split at he <;> try (cases he; done)
    rename_i hsz
    simp only [Option.some.injEq] at he
    subst he
    refine ⟨_, vr_str, fun w => ?_⟩
    have e : ((⟨p.toArray⟩ : ByteArray).size + (⟨q.toArray⟩ : ByteArray).size : Nat) = p.length + q.length := by simp [ByteArray.size]
    have hnot : ¬ ((((⟨p.toArray⟩ : ByteArray).size + (⟨q.toArray⟩ : ByteArray).size : Nat) : Int) > IntKind.i64.max) := by
      rw [e]; simp [IntKind.max, IntKind.signed, IntKind.bits]; omega
    have e2 : (⟨p.toArray⟩ : ByteArray) ++ ⟨q.toArray⟩ = ⟨(p ++ q).toArray⟩ := by
      ext1
      simp [ByteArray.data_append]
    simp only [Sem.run_bind, guard_other (P := P) (op := .add) (by simp), Result.andThen_ok, binOp, Op.stringOp, Sem.run_ite, if_neg hnot, Sem.run_pure, e2]
  · cases he

theorem b_div {op : BinOp} {t : TypeId} {x y : Operand} {a b : AV} {a' b' : Value} (ha : VR μ a a') (hb : VR μ b b') (he : divA op a b = some v) : BinOk P op t x y a' b' μ v := by
  unfold divA at he
  split at he <;> try (cases he; done)
  rename_i k p l q
  simp only [VR] at ha hb
  subst ha hb
  split at he <;> try (cases he; done)
  rename_i hkl
  obtain ⟨rfl, hq⟩ := hkl
  split at he <;> (try (cases he; done)) <;> simp only [Option.some.injEq] at he
  all_goals
    subst he
    refine ⟨_, vr_int, fun w => ?_⟩
    simp [guard_other, binOp, Op.intDiv, hq]

theorem b_bits {op : BinOp} {t : TypeId} {x y : Operand} {a b : AV} {a' b' : Value} (ha : VR μ a a') (hb : VR μ b b') (he : bitsA op a b = some v) : BinOk P op t x y a' b' μ v := by
  unfold bitsA at he
  split at he <;> try (cases he; done)
  rename_i k p l q
  simp only [VR] at ha hb
  subst ha hb
  split at he <;> try (cases he; done)
  rename_i hkl
  subst hkl
  split at he <;> (try (cases he; done)) <;> simp only [Option.some.injEq] at he
  all_goals
    subst he
    refine ⟨_, vr_int, fun w => ?_⟩
    simp [guard_other, binOp, Op.intBits]

theorem b_shift {op : BinOp} {t : TypeId} {x y : Operand} {a b : AV} {a' b' : Value} (ha : VR μ a a') (hb : VR μ b b') (he : shiftA op a b = some v) : BinOk P op t x y a' b' μ v := by
  unfold shiftA at he
  split at he <;> try (cases he; done)
  rename_i k p l q
  simp only [VR] at ha hb
  subst ha hb
  split at he <;> try (cases he; done)
  rename_i hq
  split at he <;> (try (cases he; done)) <;> simp only [Option.some.injEq] at he
  all_goals
    subst he
    refine ⟨_, vr_int, fun w => ?_⟩
    simp [guard_other, binOp, Op.shift, hq]

theorem guard_ints {op : BinOp} {t : TypeId} {x y : Operand} {k l : IntKind} {a b : Int} (w : World) : (eqGuard op t x y (.int k a) (.int l b)).run P w = .ok () w := by
  unfold eqGuard
  split <;> rfl
theorem guard_strs {op : BinOp} {t : TypeId} {x y : Operand} {a b : ByteArray} (w : World) : (eqGuard op t x y (.string a) (.string b)).run P w = .ok () w := by
  unfold eqGuard
  split <;> rfl

theorem beq_bytes (p q : List UInt8) : ((⟨p.toArray⟩ : ByteArray).toList == (⟨q.toArray⟩ : ByteArray).toList) = (p == q) := by simp

theorem b_cmp {op : BinOp} {t : TypeId} {x y : Operand} {a b : AV} {a' b' : Value} (ha : VR μ a a') (hb : VR μ b b') (he : cmpA op a b = some v) : BinOk P op t x y a' b' μ v := by
  unfold cmpA at he
  split at he
  · rename_i k p l q
    simp only [VR] at ha hb
    subst ha hb
    split at he <;> try (cases he; done)
    rename_i hkl
    subst hkl
    split at he <;> (try (cases he; done)) <;> simp only [Option.some.injEq] at he
    all_goals
      subst he
      refine ⟨_, vr_bool, fun w => ?_⟩
      simp [guard_ints, binOp, Op.intCmp]
  · rename_i p q
    simp only [VR] at ha hb
    subst ha hb
    split at he <;> (try (cases he; done)) <;> simp only [Option.some.injEq] at he
    all_goals
      subst he
      refine ⟨_, vr_bool, fun w => ?_⟩
      simp only [Sem.run_bind, guard_strs, Result.andThen_ok, binOp, Op.stringOp, beq_bytes, ByteArray.toList_mk, Sem.run_pure]
  · cases he

theorem flat_ok {d : Nat} : ∀ {fs : List Field} {i : Nat} {ks : List Nat} {as bs : List AV} {xs ys : List Value} {r : Bool}, flatKs P i fs = some ks → VRs μ as (xs.drop i) → VRs μ bs (ys.drop i) → flatEq ks as bs = some r →
    ∀ w, (Op.eqFields (d + 1) ⟨xs⟩ ⟨ys⟩ fs).run P w = .ok r w
  | [], i, ks, as, bs, xs, ys, r, h1, _, _, h4, w => by
    simp only [flatKs, Option.some.injEq] at h1
    subst h1
    simp only [flatEq, Option.some.injEq] at h4
    subst h4
    simp [Op.eqFields]
  | f :: fs, i, ks, as, bs, xs, ys, r, h1, h2, h3, h4, w => by
    unfold flatKs at h1
    split at h1
    · cases h1
    rename_i hf
    have hf1 : f.name ≠ "_" := fun e => hf (.inl e)
    have hf2 : f.offset = i := Classical.byContradiction fun e => hf (.inr e)
    have tail : ∀ {l : List Nat} {a b : AV} {as' bs' : List AV}, flatKs P (i + 1) fs = some l → as = a :: as' → bs = b :: bs' →
        ∃ a' b', xs[i]? = some a' ∧ ys[i]? = some b' ∧ VR μ a a' ∧ VR μ b b' ∧ (flatEq l as' bs' = some r → ∀ w, (Op.eqFields (d + 1) ⟨xs⟩ ⟨ys⟩ fs).run P w = .ok r w) := by
      intro l a b as' bs' hl e1 e2
      subst e1 e2
      simp only [VRs] at h2 h3
      obtain ⟨a', ra, ea, va, vra⟩ := h2
      obtain ⟨b', rb, eb, vb, vrb⟩ := h3
      have hx : xs[i]? = some a' := by
        have := congrArg (·[0]?) ea
        simpa [List.getElem?_drop] using this
      have hy : ys[i]? = some b' := by
        have := congrArg (·[0]?) eb
        simpa [List.getElem?_drop] using this
      have ea' : xs.drop (i + 1) = ra := by rw [← List.drop_drop (i := 1), ea]; rfl
      have eb' : ys.drop (i + 1) = rb := by rw [← List.drop_drop (i := 1), eb]; rfl
      exact ⟨a', b', hx, hy, va, vb, fun hr => flat_ok hl (ea' ▸ vra) (eb' ▸ vrb) hr⟩
    have ag : ∀ {dd : TypeDesc}, P.underlying f.type = some dd → (∀ fs, dd ≠ .struct fs) → (∀ n e, dd ≠ .array n e) → ∀ (zs : List Value) (z : Value), zs[i]? = some z → ∀ w, (part f.type ⟨zs⟩ f.offset).run P w = .ok z w := by
      intro dd hd n1 n2 zs z hz w
      have hg : aggQ P f.type = some false := by
        simp only [aggQ, hd, Option.map_some, Option.some.injEq]
      simp [part, r_isAgg hg, hf2, hz]
    split at h1
    · rename_i l hu hl
      simp only [Option.some.injEq] at h1
      subst h1
      rcases as with _ | ⟨a0, as'⟩ <;> rcases bs with _ | ⟨b0, bs'⟩ <;> (try (simp [flatEq] at h4; done))
      cases a0 <;> (try (simp [flatEq] at h4; done))
      cases b0 <;> (try (simp [flatEq] at h4; done))
      rename_i a b
      simp only [flatEq] at h4
      obtain ⟨a', b', hx, hy, va, vb, ht⟩ := tail hl rfl rfl
      simp only [VR] at va vb
      subst va vb
      have p1 := ag hu (by simp) (by simp) xs _ hx
      have p2 := ag hu (by simp) (by simp) ys _ hy
      simp only [Op.eqFields, if_pos hf1, Sem.run_bind, p1, p2, Result.andThen_ok, run_equalIn_bool' w d f.type a b hu, Sem.run_ite, Sem.run_pure]
      split at h4
      · rename_i e
        simp only [e, Bool.not_true, Bool.false_eq_true, if_false]
        exact ht h4 w
      · rename_i e
        simp only [Option.some.injEq] at h4
        subst h4
        simp [e]
    · rename_i k l hu hl
      simp only [Option.some.injEq] at h1
      subst h1
      rcases as with _ | ⟨a0, as'⟩ <;> rcases bs with _ | ⟨b0, bs'⟩ <;> (try (simp [flatEq] at h4; done))
      cases a0 <;> (try (simp [flatEq] at h4; done))
      cases b0 <;> (try (simp [flatEq] at h4; done))
      rename_i k1 a k2 b
      simp only [flatEq] at h4
      obtain ⟨a', b', hx, hy, va, vb, ht⟩ := tail hl rfl rfl
      simp only [VR] at va vb
      subst va vb
      have p1 := ag hu (by simp) (by simp) xs _ hx
      have p2 := ag hu (by simp) (by simp) ys _ hy
      split at h4
      · rename_i ek
        subst ek
        simp only [Op.eqFields, if_pos hf1, Sem.run_bind, p1, p2, Result.andThen_ok, run_equalIn_int w d f.type k1 k a b hu, Sem.run_ite, Sem.run_pure]
        split at h4
        · rename_i e
          simp only [e, Bool.not_true, Bool.false_eq_true, if_false]
          exact ht h4 w
        · rename_i e
          simp only [Option.some.injEq] at h4
          subst h4
          simp [e]
      · cases h4
    · rename_i l hu hl
      simp only [Option.some.injEq] at h1
      subst h1
      rcases as with _ | ⟨a0, as'⟩ <;> rcases bs with _ | ⟨b0, bs'⟩ <;> (try (simp [flatEq] at h4; done))
      cases a0 <;> (try (simp [flatEq] at h4; done))
      cases b0 <;> (try (simp [flatEq] at h4; done))
      rename_i a b
      simp only [flatEq] at h4
      obtain ⟨a', b', hx, hy, va, vb, ht⟩ := tail hl rfl rfl
      simp only [VR] at va vb
      subst va vb
      have p1 := ag hu (by simp) (by simp) xs _ hx
      have p2 := ag hu (by simp) (by simp) ys _ hy
      simp only [Op.eqFields, if_pos hf1, Sem.run_bind, p1, p2, Result.andThen_ok, run_equalIn_string w d f.type _ _ hu, Sem.run_ite, Sem.run_pure, beq_bytes]
      split at h4
      · rename_i e
        simp only [e, Bool.not_true, Bool.false_eq_true, if_false]
        exact ht h4 w
      · rename_i e
        simp only [Option.some.injEq] at h4
        subst h4
        simp [e]
    · cases h1
end
end Go.AM
end
