/-
  AmPure6: a part of the abstract machine that stands for runs of the program in the model: no statement of the seat is in it.
-/
import Derived.Test.YtadcebncbpopdaaGreatDoorAmPure5
set_option linter.unusedSimpArgs false
noncomputable section
namespace Go.AM
section
variable {P : Program} {o : Oper} {aop : AOp} {tm : Tm} {ρ : Operand → Value} {μ : Mu} {v : AV}

theorem p_sliceSl {t e : TypeId} {x : Operand} {lo hi mx : Option Operand} (ho : o.op = .slice t x lo hi mx) (hu : P.underlying t = some (.slice e)) (hc : compOp P o = some aop) (hr : OR μ tm ρ o) (he : evPure tm aop = some v) : PureOk P o ρ μ v := by
  simp only [compOp, compOpB, ho, hu, bind, Option.bind_eq_some_iff, pure, Option.some.injEq] at hc
  obtain ⟨size, hs, rfl⟩ := hc
  simp only [evPure, evPureB] at he
  split at he
  · rename_i i off n c ex es lo1 hi1 mx1 h1 h2 h3 h4
    have a1 := hr x (by simp [ho, Op.operands]) _ h1
    simp only [VR] at a1
    obtain ⟨m, off', c', hm, ex1, hoff, hlc, hcc, hex, hsz⟩ := a1
    obtain ⟨l1, l2⟩ := optOpnd_ok (ρ := ρ) (fun y hy a ha => hr y (by simp [ho, Op.operands, hy]) a ha) h2
    obtain ⟨g1, g2⟩ := optOpnd_ok (ρ := ρ) (fun y hy a ha => hr y (by simp [ho, Op.operands, hy]) a ha) h3
    obtain ⟨q1, q2⟩ := optOpnd_ok (ρ := ρ) (fun y hy a ha => hr y (by simp [ho, Op.operands, hy]) a ha) h4
    split at he
    · rename_i hes
      subst hes
      split at he
      · split at he
        · rename_i b hb
          split at he
          · rename_i a ha
            simp only [Option.some.injEq] at he
            subst he
            obtain ⟨hle, hbc, hw⟩ := bounds2 (P := P) (isS := true) l1 l2 g1 g2 hcc hb ha
            have hbc' : b ≤ c := by omega
            refine ⟨.slice (if c' = a then some ⟨m.b, off', none⟩ else some ⟨m.b, off' + a * es, none⟩) (b - a) (c' - a), ?_, fun w => ?_⟩
            · simp only [VR]
              by_cases hca : c' = a
              · refine ⟨m, off', c' - a, hm, by simp [hca], .inr (by omega), by omega, by omega, fun h => by have := hex h; omega, fun h => by omega⟩
              · have ho' : off' = m.base + off := by rcases hoff with h | h; exact h; omega
                have h0 : c' ≠ 0 := by omega
                have := hsz h0
                refine ⟨m, off' + a * es, c' - a, hm, by simp [hca], .inl (by omega), by omega, by omega, fun h => by have := hex h; omega, fun h => ?_⟩
                have e2 : a * es + (c' - a) * es = c' * es := by rw [← Nat.add_mul]; congr 1; omega
                omega
            · simp only [execOp, ho, Instr.sliceAt, Sem.run_bind, r_und hu, Result.andThen_ok, Instr.slice, ex1, q2 rfl, hw, r_size hs, Sem.run_pure, Option.map_some, add_addr]
          · cases he
        · cases he
      · rename_i mv
        obtain ⟨mv', hmv1, hmv2⟩ := q1 _ rfl
        split at he
        · rename_i hi2 mm hmm
          rcases boundA_ok (P := P) (code := .slice3Acap) (fun a ha => (by cases ha; exact ⟨mv', hmv1, hmv2⟩)) (fun h => (by cases h)) hmm with ⟨h, _⟩ | ⟨km, im, em, hm0, hm1, rfl, _⟩
          · cases h
          split at he
          · rename_i b hb
            rcases boundA_ok (P := P) (code := .slice3B) (x' := hi.map ρ) (fun a ha => (by cases ha; exact g1 _ rfl)) (fun h => (by cases h)) hb with ⟨h, _⟩ | ⟨kb, ib, eb, hb0, hb1, rfl, hwb⟩
            · cases h
            split at he
            · rename_i a ha
              simp only [Option.some.injEq] at he
              subst he
              have hwm : ∀ w, (Instr.sliceBound (.int km im) c' .slice3Acap).run P w = .ok im.toNat w := fun w => run_sliceBound (P := P) (w := w) km im c' .slice3Acap hm0 (by omega)
              have L := boundA_ok (P := P) (code := .slice3C) l1 l2 ha
              have hle : a ≤ ib.toNat := by rcases L with ⟨_, _, rfl⟩ | ⟨_, _, _, _, _, rfl, _⟩ <;> omega
              have hw : ∀ w, (Instr.sliceBounds true n c' (lo.map ρ) (hi.map ρ) (mx.map ρ)).run P w = .ok (a, ib.toNat, im.toNat) w := by
                intro w
                have e1 : mx.map ρ = some (.int km im) := em
                rcases L with ⟨_, f, rfl⟩ | ⟨k2, i2, f, _, _, rfl, hw2⟩
                · simp [Instr.sliceBounds, e1, eb, f, hwm, hwb]
                · simp [Instr.sliceBounds, e1, eb, f, hwm, hwb, hw2]
              clear L
              refine ⟨.slice (if im.toNat = a then some ⟨m.b, off', none⟩ else some ⟨m.b, off' + a * es, none⟩) (ib.toNat - a) (im.toNat - a), ?_, fun w => ?_⟩
              · simp only [VR]
                by_cases hca : im.toNat = a
                · refine ⟨m, off', im.toNat - a, hm, by simp [hca], .inr (by omega), by omega, by omega, fun h => rfl, fun h => by omega⟩
                · have ho' : off' = m.base + off := by rcases hoff with h | h; exact h; omega
                  have h0 : c' ≠ 0 := by omega
                  have := hsz h0
                  refine ⟨m, off' + a * es, im.toNat - a, hm, by simp [hca], .inl (by omega), by omega, by omega, fun h => rfl, fun h => ?_⟩
                  have e2 : a * es + (im.toNat - a) * es = im.toNat * es := by rw [← Nat.add_mul]; congr 1; omega
                  have e3 : im.toNat * es ≤ c' * es := Nat.mul_le_mul_right _ (by omega)
                  omega
              · simp only [execOp, ho, Instr.sliceAt, Sem.run_bind, r_und hu, Result.andThen_ok, Instr.slice, ex1, hw, r_size hs, Sem.run_pure, Option.map_some, add_addr]
            · cases he
          · cases he
        · cases he
    · cases he
  · rename_i lo1 hi1 h1 h2 h3 h4
    have a1 := hr x (by simp [ho, Op.operands]) _ h1
    simp only [VR] at a1
    obtain ⟨l1, l2⟩ := optOpnd_ok (ρ := ρ) (fun y hy a ha => hr y (by simp [ho, Op.operands, hy]) a ha) h2
    obtain ⟨g1, g2⟩ := optOpnd_ok (ρ := ρ) (fun y hy a ha => hr y (by simp [ho, Op.operands, hy]) a ha) h3
    obtain ⟨q1, q2⟩ := optOpnd_ok (ρ := ρ) (fun y hy a ha => hr y (by simp [ho, Op.operands, hy]) a ha) h4
    split at he
    · rename_i b hb
      split at he
      · rename_i a ha
        simp only [Option.some.injEq] at he
        subst he
        obtain ⟨hle, hbc, hw⟩ := bounds2 (P := P) (isS := true) (cap' := 0) l1 l2 g1 g2 (Nat.le_refl _) hb ha
        have hb0 : b = 0 := by omega
        have ha0 : a = 0 := by omega
        subst hb0 ha0
        refine ⟨.slice none 0 0, by simp only [VR], fun w => ?_⟩
        simp [execOp, ho, Instr.sliceAt, r_und hu, Instr.slice, a1, q2 rfl, hw, r_size hs]
      · cases he
    · cases he
  · cases he

theorem p_capOf {c : Call} {x : Operand} {t : TypeId} {e : TypeId} (ho : o.op = .call c) (hb : c.callee = .builtin .cap) (hargs : c.args = #[x]) (ht : c.argTypes[0]? = some t) (hu : P.underlying t = some (.slice e))
    (hr : OR μ tm ρ o) (he : evPure tm (.capOf x) = some v) : PureOk P o ρ μ v := by
  simp only [evPure, evPureB] at he
  have hx : ∀ a, opnd tm x = some a → VR μ a (ρ x) := hr x (by simp [ho, Op.operands, Call.operands, hb, hargs])
  split at he
  · rename_i i off l c' es h1
    have a1 := hx _ h1
    simp only [VR] at a1
    obtain ⟨m, off', c2, hm, ex1, _, _, _, hex, _⟩ := a1
    simp only [Option.some.injEq] at he
    subst he
    have := hex trivial
    subst this
    exact ⟨_, vr_int, fun w => by simp [execOp, ho, resolve, hb, hargs, invoke, builtin, Builtin.cap_, ht, ex1, r_und hu, goInt]⟩
  · rename_i h1
    have a1 := hx _ h1
    simp only [VR] at a1
    simp only [Option.some.injEq] at he
    subst he
    exact ⟨_, vr_int, fun w => by simp [execOp, ho, resolve, hb, hargs, invoke, builtin, Builtin.cap_, ht, a1, r_und hu, goInt]⟩
  · cases he

theorem minmax_ok {isMin : Bool} : ∀ {r : List AV} {a u : AV} {r' : List Value} {a' : Value}, minmaxA isMin a r = some u → VR μ a a' → VRs μ r r' →
    ∃ u', VR μ u u' ∧ ∀ w, (r'.foldlM (if isMin then Builtin.min2 else Builtin.max2) a').run P w = .ok u' w
  | [], a, u, r', a', h, ha, hr => by
    simp only [minmaxA, Option.some.injEq] at h
    simp only [VRs] at hr
    subst h hr
    exact ⟨a', ha, fun w => by simp⟩
  | b :: r, a, u, r', a', h, ha, hr => by
    simp only [VRs] at hr
    obtain ⟨b', r', rfl, hb, hr⟩ := hr
    cases a <;> (try (simp [minmaxA] at h; done))
    cases b <;> (try (simp [minmaxA] at h; done))
    simp only [minmaxA] at h
    simp only [VR] at ha hb
    subst ha hb
    obtain ⟨u', hu, hw⟩ := minmax_ok h vr_int hr
    refine ⟨u', hu, fun w => ?_⟩
    cases isMin
    · simp only [Bool.false_eq_true, if_false] at hw ⊢
      simp [Builtin.max2, hw]
    · simp only [if_true] at hw ⊢
      simp [Builtin.min2, hw]

theorem p_minmax {c : Call} {isMin : Bool} (ho : o.op = .call c) (hb : c.callee = .builtin (if isMin then .min else .max)) (hr : OR μ tm ρ o) (he : evPure tm (.minmax isMin c.args.toList) = some v) : PureOk P o ρ μ v := by
  simp only [evPure, evPureB] at he
  split at he
  · rename_i k a r h1
    have hx := opnds_VR (ρ := ρ) (fun x hx a ha => hr x (by
      have hx' : x ∈ c.args := by simpa using hx
      cases isMin <;> simp_all [Op.operands, Call.operands]) a ha) h1
    simp only [VRs] at hx
    obtain ⟨a', r', e, ha, hr'⟩ := hx
    obtain ⟨u', hu, hw⟩ := minmax_ok (P := P) he ha hr'
    refine ⟨u', hu, fun w => ?_⟩
    have e2 : (c.args.map ρ).toList = a' :: r' := by simp [e]
    cases isMin
    · simp only [Bool.false_eq_true, if_false] at hw hb
      simp [execOp, ho, resolve, hb, invoke, builtin, Builtin.max_, e, hw]
    · simp only [if_true] at hw hb
      simp [execOp, ho, resolve, hb, invoke, builtin, Builtin.min_, e, hw]
  · cases he

theorem uSD_nil (ts : Array TypeId) (t : TypeId) (l c : Nat) (w : World) : (Builtin.unsafeSliceData_ ts t #[.slice none l c]).run P w = .ok (.pointer none) w := rfl
theorem uSD_some (ts : Array TypeId) (t : TypeId) (a : Addr) (l c : Nat) (h : c ≠ 0) (w : World) : (Builtin.unsafeSliceData_ ts t #[.slice (some a) l c]).run P w = .ok (.pointer (some a)) w := by
  show (if c ≠ 0 then (Pure.pure (.pointer (some a)) : Sem Value) else _).run P w = _
  rw [if_pos h]
  rfl

theorem p_uSliceData {c : Call} {x : Operand} (ho : o.op = .call c) (hb : c.callee = .builtin .unsafeSliceData) (hargs : c.args = #[x]) (hr : OR μ tm ρ o) (he : evPure tm (.uSliceData x) = some v) : PureOk P o ρ μ v := by
  simp only [evPure, evPureB] at he
  have hx : ∀ a, opnd tm x = some a → VR μ a (ρ x) := hr x (by simp [ho, Op.operands, Call.operands, hb, hargs])
  split at he
  · rename_i h1
    have a1 := hx _ h1
    simp only [VR] at a1
    simp only [Option.some.injEq] at he
    subst he
    exact ⟨.pointer none, by simp only [VR], fun w => by simp [execOp, ho, resolve, hb, hargs, invoke, builtin, a1, uSD_nil]⟩
  · rename_i i off l c' ex es h1
    have a1 := hx _ h1
    simp only [VR] at a1
    obtain ⟨m, off', c2, hm, ex1, hoff, _, hcc, hex, _⟩ := a1
    split at he
    · rename_i hc0
      simp only [Option.some.injEq] at he
      subst he
      have h0 : c2 ≠ 0 := by omega
      have e : off' = m.base + off := by omega
      refine ⟨.pointer (some ⟨m.b, m.base + off, none⟩), ⟨m, hm, rfl⟩, fun w => ?_⟩
      simp [execOp, ho, resolve, hb, hargs, invoke, builtin, ex1, uSD_some _ _ _ _ _ h0, e]
    · cases he
  · cases he
end
end Go.AM
end
