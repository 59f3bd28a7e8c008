/-
  AmPure4: a part of the abstract machine that stands for runs of the program in the model: no statement of the seat is in it.
-/
import Derived.Test.YtadcebncbpopdaaGreatDoorAmPure3
set_option linter.unusedSimpArgs false
noncomputable section
namespace Go.AM
section
variable {P : Program} {o : Oper} {aop : AOp} {tm : Tm} {ρ : Operand → Value} {μ : Mu} {v : AV}

theorem eq_size {t : TypeId} {n : Nat} (h : sizeQ P t = some n) (w : World) : (sizeOf t).run P w = .ok n w := r_size h w

/-- == and != on the rest: what both need -/
def EqOk (P : Program) (op : BinOp) (t : TypeId) (x y : Operand) (a' b' : Value) (r : Bool) : Prop :=
  (∀ w, (eqGuard op t x y a' b').run P w = .ok () w) ∧ (∀ w, (binOp .eql t a' b').run P w = .ok (.bool r) w) ∧ (∀ w, (binOp .neq t a' b').run P w = .ok (.bool !r) w)

theorem guard_plain {op : BinOp} {t : TypeId} {x y : Operand} {a b : Value} (h1 : ∀ cs, a ≠ .agg cs) (h2 : a ≠ .nilIface) (w : World) : (eqGuard op t x y a b).run P w = .ok () w := by
  cases a <;> first
    | exact absurd rfl h2
    | exact absurd rfl (h1 _)
    | (cases op <;> simp [eqGuard])

theorem of_equal {op : BinOp} {t : TypeId} {x y : Operand} {a' b' : Value} {r : Bool} (hg : ∀ w, (eqGuard op t x y a' b').run P w = .ok () w)
    (h1 : binOp .eql t a' b' = do pure (.bool (← Op.equal t a' b'))) (h2 : binOp .neq t a' b' = do pure (.bool (!(← Op.equal t a' b')))) (h : ∀ w, (Op.equal t a' b').run P w = .ok r w) : EqOk P op t x y a' b' r :=
  ⟨hg, fun w => by rw [h1]; simp [h w], fun w => by rw [h2]; simp [h w]⟩

theorem eq_at {t : TypeId} {a b : Value} {r : Bool} {w : World} (h : ∀ d, (Op.equalIn (d + 1) t a b).run P w = .ok r w) : (Op.equal t a b).run P w = .ok r w := h 9999

theorem int_types {u : Nat} (h : (intTypes P).contains u = true) : ∃ i k, P.info? u = some i ∧ i.comparable = true ∧ P.underlying u = some (.int k) := by
  have h' : u ∈ intTypes P := by simpa using h
  simp only [intTypes, List.mem_filter] at h'
  obtain ⟨_, h2⟩ := h'
  split at h2
  · rename_i i k hi hu
    exact ⟨i, k, hi, h2, hu⟩
  · cases h2
theorem r_info {u : Nat} {i : TypeInfo} (h : P.info? u = some i) (w : World) : (typeInfo u).run P w = .ok i w := by
  simp [typeInfo, h]
theorem eq_at2 {t : TypeId} {a b : Value} {r : Bool} {w : World} (h : ∀ d, (Op.equalIn (d + 2) t a b).run P w = .ok r w) : (Op.equal t a b).run P w = .ok r w := h 9998
theorem eq_ifc_int {t u : TypeId} {ms : Array (String × TypeId)} {k : IntKind} {a b : Int} (hu : P.underlying t = some (.interface ms)) (h : (intTypes P).contains u = true) (w : World) : (Op.equal t (.iface u (.int k a)) (.iface u (.int k b))).run P w = .ok (a == b) w := by
  obtain ⟨i, k', hi, hcmp, hu2⟩ := int_types h
  exact eq_at2 fun d => by simp [Op.equalIn, r_und hu, r_info hi, hcmp, r_und hu2]
theorem eq_ifc_ne {t u u' : TypeId} {ms : Array (String × TypeId)} {a b : Value} (hu : P.underlying t = some (.interface ms)) (h : u ≠ u') (w : World) : (Op.equal t (.iface u a) (.iface u' b)).run P w = .ok false w :=
  eq_at fun d => by simp [Op.equalIn, r_und hu, h]
theorem b_eqv {op : BinOp} {t : TypeId} {x y : Operand} {a b : AV} {a' b' : Value} {k : EK} {r : Bool} (hk : eqKind P t = some k) (ha : VR μ a a') (hb : VR μ b b') (he : eqvA k (cx x y) a b = some r) : EqOk P op t x y a' b' r := by
  unfold eqKind at hk
  split at hk
  · rename_i hu
    simp only [Option.some.injEq] at hk
    subst hk
    cases a <;> (try (simp [eqvA] at he; done))
    cases b <;> (try (simp [eqvA] at he; done))
    simp only [eqvA, Option.some.injEq] at he
    subst he
    simp only [VR] at ha hb
    subst ha hb
    exact of_equal (guard_plain (by simp) (by simp)) (by simp [binOp]) (by simp [binOp]) fun w => run_equalIn_bool' w 9999 t _ _ hu
  · rename_i e hu
    split at hk
    · rename_i n hn
      simp only [Option.some.injEq] at hk
      subst hk
      cases a <;> (try (simp [eqvA] at he; done)) <;> cases b <;> (try (simp [eqvA] at he; done)) <;> simp only [VR] at ha hb
      · rename_i i p j q
        obtain ⟨m, hm, rfl⟩ := ha
        obtain ⟨m', hm', rfl⟩ := hb
        simp only [eqvA] at he
        split at he
        · rename_i hij
          subst hij
          rw [hm] at hm'
          cases hm'
          simp only [Option.some.injEq] at he
          subst he
          refine of_equal (guard_plain (by simp) (by simp)) (by simp [binOp]) (by simp [binOp]) fun w => eq_at fun d => ?_
          have e : (m.base + p = m.base + q) = (p = q) := by simp
          by_cases hpq : p = q
          · simp [Op.equalIn, r_und hu, r_size hn, sameAddr, e, hpq]
          · have ne1 : ({ block := m.b, off := m.base + p } == ({ block := m.b, off := m.base + q } : Addr)) = false := by simp [hpq]
            have ne2 : (p == q) = false := by simp [hpq]
            simp [Op.equalIn, r_und hu, r_size hn, sameAddr, ne1, ne2]
        · cases he
      · obtain ⟨m, hm, rfl⟩ := ha
        subst hb
        simp only [eqvA, Option.some.injEq] at he
        subst he
        exact of_equal (guard_plain (by simp) (by simp)) (by simp [binOp]) (by simp [binOp]) fun w => eq_at fun d => by simp [Op.equalIn, r_und hu]
      · obtain ⟨m, hm, rfl⟩ := hb
        subst ha
        simp only [eqvA, Option.some.injEq] at he
        subst he
        exact of_equal (guard_plain (by simp) (by simp)) (by simp [binOp]) (by simp [binOp]) fun w => eq_at fun d => by simp [Op.equalIn, r_und hu]
      · subst ha hb
        simp only [eqvA, Option.some.injEq] at he
        subst he
        exact of_equal (guard_plain (by simp) (by simp)) (by simp [binOp]) (by simp [binOp]) fun w => eq_at fun d => by simp [Op.equalIn, r_und hu]
    · cases hk
  · rename_i e hu
    simp only [Option.some.injEq] at hk
    subst hk
    cases a <;> (try (simp [eqvA] at he; done)) <;> cases b <;> (try (simp [eqvA] at he; done)) <;> simp only [VR] at ha hb <;> simp only [eqvA, Option.some.injEq] at he <;> subst he
    · obtain ⟨m, off, c', hm, rfl, _⟩ := ha
      subst hb
      exact of_equal (guard_plain (by simp) (by simp)) (by simp [binOp]) (by simp [binOp]) fun w => eq_at fun d => by simp [Op.equalIn, r_und hu]
    · obtain ⟨m, off, c', hm, rfl, _⟩ := hb
      subst ha
      exact of_equal (guard_plain (by simp) (by simp)) (by simp [binOp]) (by simp [binOp]) fun w => eq_at fun d => by simp [Op.equalIn, r_und hu]
    · subst ha hb
      exact of_equal (guard_plain (by simp) (by simp)) (by simp [binOp]) (by simp [binOp]) fun w => eq_at fun d => by simp [Op.equalIn, r_und hu]
  · rename_i e e' hu
    simp only [Option.some.injEq] at hk
    subst hk
    cases a <;> (try (simp [eqvA] at he; done)) <;> cases b <;> (try (simp [eqvA] at he; done)) <;> simp only [VR] at ha hb <;> simp only [eqvA, Option.some.injEq] at he <;> subst he
    · obtain ⟨m, hm, rfl⟩ := ha
      subst hb
      exact of_equal (guard_plain (by simp) (by simp)) (by simp [binOp]) (by simp [binOp]) fun w => eq_at fun d => by simp [Op.equalIn, r_und hu]
    · obtain ⟨m, hm, rfl⟩ := hb
      subst ha
      exact of_equal (guard_plain (by simp) (by simp)) (by simp [binOp]) (by simp [binOp]) fun w => eq_at fun d => by simp [Op.equalIn, r_und hu]
    · subst ha hb
      exact of_equal (guard_plain (by simp) (by simp)) (by simp [binOp]) (by simp [binOp]) fun w => eq_at fun d => by simp [Op.equalIn, r_und hu]
  · rename_i e e' e'' hu
    simp only [Option.some.injEq] at hk
    subst hk
    cases a <;> (try (simp [eqvA] at he; done)) <;> cases b <;> (try (simp [eqvA] at he; done)) <;> simp only [VR] at ha hb <;> simp only [eqvA, Option.some.injEq] at he <;> subst he
    · obtain ⟨_, _, rfl, _⟩ := ha
      subst hb
      exact of_equal (guard_plain (by simp) (by simp)) (by simp [binOp]) (by simp [binOp]) fun w => eq_at fun d => by simp [Op.equalIn, r_und hu]
    · obtain ⟨_, _, rfl, _⟩ := hb
      subst ha
      exact of_equal (guard_plain (by simp) (by simp)) (by simp [binOp]) (by simp [binOp]) fun w => eq_at fun d => by simp [Op.equalIn, r_und hu]
    · subst ha hb
      exact of_equal (guard_plain (by simp) (by simp)) (by simp [binOp]) (by simp [binOp]) fun w => eq_at fun d => by simp [Op.equalIn, r_und hu]
  · rename_i e hu
    simp only [Option.some.injEq] at hk
    subst hk
    cases a <;> (try (simp [eqvA] at he; done)) <;> cases b <;> (try (simp [eqvA] at he; done)) <;> simp only [VR] at ha hb
    · rename_i t1 x1 t2 x2
      obtain ⟨x', rfl, hx⟩ := ha
      obtain ⟨y', rfl, hy⟩ := hb
      simp only [eqvA] at he
      by_cases ht : t1 = t2
      · subst ht
        simp only [if_true] at he
        split at he
        · rename_i hc
          split at he
          · rename_i hk
            simp only [Option.some.injEq] at he
            subst he
            subst hk
            simp only [VR] at hx hy
            subst hx hy
            exact of_equal (guard_plain (by simp) (by simp)) (by simp [binOp]) (by simp [binOp]) (eq_ifc_int hu hc)
          · cases he
        · cases he
      · rw [if_neg ht] at he
        simp only [Option.some.injEq] at he
        subst he
        exact of_equal (guard_plain (by simp) (by simp)) (by simp [binOp]) (by simp [binOp]) (eq_ifc_ne hu ht)
    · simp only [eqvA, Option.some.injEq] at he
      subst he
      obtain ⟨y', rfl, _⟩ := ha
      subst hb
      exact of_equal (guard_plain (by simp) (by simp)) (by simp [binOp]) (by simp [binOp]) fun w => eq_at fun d => by simp [Op.equalIn, r_und hu]
    · simp only [eqvA, Option.some.injEq] at he
      subst he
      obtain ⟨y', rfl, _⟩ := hb
      subst ha
      refine of_equal (fun w => ?_) (by simp [binOp]) (by simp [binOp]) fun w => eq_at fun d => by simp [Op.equalIn, r_und hu]
      unfold eqGuard
      split <;> rfl
    · simp only [eqvA] at he
      split at he
      · rename_i hcx
        simp only [Option.some.injEq] at he
        subst he ha hb
        refine of_equal (fun w => ?_) (by simp [binOp]) (by simp [binOp]) fun w => eq_at fun d => by simp [Op.equalIn, r_und hu]
        unfold cx at hcx
        cases op <;> cases x <;> cases y <;> simp_all [eqGuard]
      · cases he
  · rename_i fs hu
    split at hk
    · rename_i hst
      simp only [Option.map_eq_some_iff] at hk
      obtain ⟨ks, hks, rfl⟩ := hk
      cases a <;> (try (simp [eqvA] at he; done)) <;> cases b <;> (try (simp [eqvA] at he; done))
      simp only [eqvA] at he
      simp only [VR] at ha hb
      obtain ⟨xs, rfl, hx⟩ := ha
      obtain ⟨ys, rfl, hy⟩ := hb
      have hf : P.fieldsOf t = fs := by simp [Program.fieldsOf, hu]
      refine of_equal (fun w => run_eqGuard_agg w op t x y _ _ hst.2) (by simp [binOp]) (by simp [binOp]) fun w => ?_
      show (Op.equalIn 10000 t _ _).run P w = _
      rw [run_equalIn_agg w 9999 t _ _ (by rw [hf]; exact hu) hst.1, hf]
      exact flat_ok (d := 9998) (i := 0) hks (by simpa using hx) (by simpa using hy) he w
    · cases hk
  · cases hk

theorem p_bin {op : BinOp} {t u : TypeId} {x y : Operand} (ho : o.op = .binOp op t x y u) (hc : compOp P o = some aop) (hr : OR μ tm ρ o) (he : evPure tm aop = some v) : PureOk P o ρ μ v := by
  simp only [compOp, compOpB, ho, bind, Option.bind_eq_some_iff, pure, Option.some.injEq] at hc
  obtain ⟨ab, hab, rfl⟩ := hc
  simp only [evPure, evPureB] at he
  split at he
  · rename_i a b h1 h2
    have ha := hr x (by simp [ho, Op.operands]) _ h1
    have hb := hr y (by simp [ho, Op.operands]) _ h2
    have fin : BinOk P op t x y (ρ x) (ρ y) μ v → PureOk P o ρ μ v := fun ⟨v', hv, hw⟩ => ⟨v', hv, fun w => by
      simp only [execOp, ho]
      rw [Sem.run_bind, hw w]
      rfl⟩
    have eqfin : ∀ {neg : Bool} {k : EK}, (op = if neg then .neq else .eql) → eqKind P t = some k → binA (.eqv neg k) (cx x y) a b = some v → BinOk P op t x y (ρ x) (ρ y) μ v := by
      intro neg k hop hk he
      simp only [binA] at he
      split at he
      · rename_i r hr
        simp only [Option.some.injEq] at he
        subst he
        obtain ⟨g, e1, e2⟩ := b_eqv (op := op) hk ha hb hr
        cases neg
        · simp only [Bool.false_eq_true, if_false] at hop ⊢
          subst hop
          exact ⟨_, vr_bool, fun w => by simp [g, e1]⟩
        · simp only [if_true] at hop ⊢
          subst hop
          exact ⟨_, vr_bool, fun w => by simp [g, e2]⟩
      · cases he
    refine fin ?_
    unfold compBin at hab
    split at hab
    · cases op <;> simp only [Option.some.injEq] at hab <;> subst hab <;> simp only [binA] at he
      all_goals first | exact b_arith ha hb he | exact b_div ha hb he | exact b_bits ha hb he | exact b_shift ha hb he | exact b_cmp ha hb he
    · cases op <;> simp only [Option.some.injEq] at hab <;> (try (cases hab; done)) <;> subst hab <;> simp only [binA] at he
      all_goals first | exact b_arith ha hb he | exact b_cmp ha hb he
    · cases op <;> simp only [Option.map_eq_some_iff] at hab <;> (try (cases hab; done))
      · obtain ⟨k, hk, rfl⟩ := hab
        exact eqfin (neg := false) rfl hk he
      · obtain ⟨k, hk, rfl⟩ := hab
        exact eqfin (neg := true) rfl hk he
    · cases hab
  · cases he
end
end Go.AM
end
