/-
  AmPure: a part of the abstract machine that stands for runs of the program in the model: no statement of the seat is in it.
-/
import Derived.Test.YtadcebncbpopdaaGreatDoorAmRel
noncomputable section
namespace Go.AM

theorem avOf_VR {μ : Mu} : ∀ {v : Value} {a : AV}, avOf v = some a → VR μ a v := by
  intro v a h
  unfold avOf at h
  split at h <;> simp at h <;> subst h <;> simp [VR]

theorem avsOf_VR {μ : Mu} : ∀ {vs : List Value} {as : List AV}, avsOf vs = some as → VRs μ as vs
  | [], as, h => by simp [avsOf] at h; subst h; simp [VRs]
  | v :: vs, as, h => by
    unfold avsOf at h
    split at h
    · rename_i a as' h1 h2
      simp at h
      subst h
      exact ⟨v, vs, rfl, avOf_VR h1, avsOf_VR h2⟩
    · simp at h

theorem avWhole_VR {μ : Mu} {v : Value} {a : AV} (h : avWhole v = some a) : VR μ a v := by
  unfold avWhole at h
  split at h
  · rename_i cs
    simp at h
    obtain ⟨l, hl, rfl⟩ := h
    exact ⟨cs.toList, rfl, avsOf_VR hl⟩
  · rename_i vs
    split at h
    · simp at h
      subst h
      rename_i h0
      exact ⟨[], by simpa using Array.size_eq_zero_iff.1 h0, rfl⟩
    · cases h
  · exact avOf_VR h

/-- What is known of an operation's operands. -/
def OR (μ : Mu) (tm : Tm) (ρ : Operand → Value) (o : Oper) : Prop := ∀ x ∈ o.op.operands, ∀ a, opnd tm x = some a → VR μ a (ρ x)

def PureOk (P : Program) (o : Oper) (ρ : Operand → Value) (μ : Mu) (v : AV) : Prop := ∃ v', VR μ v v' ∧ ∀ w, (execOp ρ o).run P w = .ok (.value v') w

theorem opnds_VR {μ : Mu} {tm : Tm} {ρ : Operand → Value} : ∀ {xs : List Operand} {as : List AV}, (∀ x ∈ xs, ∀ a, opnd tm x = some a → VR μ a (ρ x)) → opnds tm xs = some as → VRs μ as (xs.map ρ)
  | [], as, _, h => by simp [opnds] at h; subst h; simp [VRs]
  | x :: xs, as, hx, h => by
    unfold opnds at h
    split at h
    · rename_i v vs h1 h2
      simp at h
      subst h
      exact ⟨ρ x, xs.map ρ, rfl, hx x (by simp) v h1, opnds_VR (fun y hy => hx y (by simp [hy])) h2⟩
    · simp at h

section
variable {P : Program} {o : Oper} {aop : AOp} {tm : Tm} {ρ : Operand → Value} {μ : Mu} {v : AV}

theorem vr_int {k : IntKind} {n : Int} : VR μ (.int k n) (.int k n) := by simp only [VR]
theorem vr_nilp : VR μ .nilp (.pointer none) := by simp only [VR]
theorem vr_bool {b : Bool} : VR μ (.bool b) (.bool b) := by simp only [VR]
theorem vr_str {s : List UInt8} : VR μ (.str s) (.string ⟨s.toArray⟩) := by simp only [VR]

theorem p_move {x : Operand} (ho : o.op = .move x) (hc : compOp P o = some aop) (hr : OR μ tm ρ o) (he : evPure tm aop = some v) : PureOk P o ρ μ v := by
  simp only [compOp, compOpB, ho, Option.some.injEq] at hc
  subst hc
  simp only [evPure, evPureB] at he
  exact ⟨ρ x, hr x (by simp [ho, Op.operands]) v he, fun w => by simp [execOp, ho]⟩

theorem p_assign {x : Operand} (ho : o.op = .assign x) (hc : compOp P o = some aop) (hr : OR μ tm ρ o) (he : evPure tm aop = some v) : PureOk P o ρ μ v := by
  simp only [compOp, compOpB, ho, Option.some.injEq] at hc
  subst hc
  simp only [evPure, evPureB] at he
  exact ⟨ρ x, hr x (by simp [ho, Op.operands]) v he, fun w => by simp [execOp, ho]⟩

theorem p_pick {c x y : Operand} (ho : o.op = .pick c x y) (hc : compOp P o = some aop) (hr : OR μ tm ρ o) (he : evPure tm aop = some v) : PureOk P o ρ μ v := by
  simp only [compOp, compOpB, ho, Option.some.injEq] at hc
  subst hc
  simp only [evPure, evPureB] at he
  split at he
  · rename_i h
    have := hr c (by simp [ho, Op.operands]) _ h
    simp only [VR] at this
    exact ⟨ρ x, hr x (by simp [ho, Op.operands]) v he, fun w => by simp [execOp, ho, this, asBool]⟩
  · rename_i h
    have := hr c (by simp [ho, Op.operands]) _ h
    simp only [VR] at this
    exact ⟨ρ y, hr y (by simp [ho, Op.operands]) v he, fun w => by simp [execOp, ho, this, asBool]⟩
  · cases he

theorem p_nilCheck {x : Operand} (ho : o.op = .nilCheck x) (hc : compOp P o = some aop) (hr : OR μ tm ρ o) (he : evPure tm aop = some v) : PureOk P o ρ μ v := by
  simp only [compOp, compOpB, ho, Option.some.injEq] at hc
  subst hc
  simp only [evPure, evPureB] at he
  split at he
  · rename_i i off h
    have := hr x (by simp [ho, Op.operands]) _ h
    simp at he
    subst he
    refine ⟨ρ x, this, fun w => ?_⟩
    simp only [VR] at this
    obtain ⟨m, _, e⟩ := this
    simp [execOp, ho, e]
  · rename_i f a b h
    have := hr x (by simp [ho, Op.operands]) _ h
    simp at he
    subst he
    refine ⟨ρ x, this, fun w => ?_⟩
    simp only [VR] at this
    obtain ⟨a', b', e, _⟩ := this
    simp [execOp, ho, e]
  · rename_i t u h
    have := hr x (by simp [ho, Op.operands]) _ h
    simp at he
    subst he
    refine ⟨ρ x, this, fun w => ?_⟩
    simp only [VR] at this
    obtain ⟨y, e, _⟩ := this
    simp [execOp, ho, e]
  · cases he

theorem p_mkIface {t : TypeId} {x : Operand} (ho : o.op = .makeInterface t x) (hc : compOp P o = some aop) (hr : OR μ tm ρ o) (he : evPure tm aop = some v) : PureOk P o ρ μ v := by
  simp only [compOp, compOpB, ho] at hc
  split at hc
  · cases hc
  · rename_i hn d hd
    simp only [Option.some.injEq] at hc
    subst hc
    simp only [evPure, evPureB, Option.map_eq_some_iff] at he
    obtain ⟨a, ha, rfl⟩ := he
    refine ⟨.iface t (ρ x), ⟨_, rfl, hr x (by simp [ho, Op.operands]) a ha⟩, fun w => ?_⟩
    simp only [execOp, ho, Instr.makeInterface, Sem.run_bind, underlying, run_program, Result.andThen_ok, hd, Sem.run_pure]
  · cases hc

theorem r_und {t : TypeId} {d : TypeDesc} (h : P.underlying t = some d) (w : World) : (underlying t).run P w = .ok d w := by
  simp [underlying, h]
theorem r_size {t : TypeId} {n : Nat} (h : sizeQ P t = some n) (w : World) : (sizeOf t).run P w = .ok n w := by
  unfold sizeQ at h
  cases hi : P.info? t with
  | none => simp [hi] at h
  | some i => simp [hi] at h; simp [sizeOf, typeInfo, hi, h]
theorem r_bytes {t : TypeId} {n : Nat} (h : bytesQ P t = some n) (w : World) : ∃ i, (typeInfo t).run P w = .ok i w ∧ i.bytes = n := by
  unfold bytesQ at h
  cases hi : P.info? t with
  | none => simp [hi] at h
  | some i => simp [hi] at h; exact ⟨i, by simp [typeInfo, hi], h⟩
theorem r_isAgg {t : TypeId} {g : Bool} (h : aggQ P t = some g) (w : World) : (isAgg t).run P w = .ok g w := by
  unfold aggQ at h
  cases hi : P.underlying t with
  | none => simp [hi] at h
  | some d =>
    simp [hi] at h
    simp only [isAgg, Sem.run_bind, r_und hi, Result.andThen_ok]
    cases d <;> simp_all
theorem add_addr (b o n : Nat) : (⟨b, o, none⟩ : Addr).add n = ⟨b, o + n, none⟩ := by
  unfold Addr.add
  split
  · subst_vars; rfl
  · rfl

theorem p_fieldAddr {t : TypeId} {x : Operand} {i : Nat} (ho : o.op = .fieldAddr t x i) (hc : compOp P o = some aop) (hr : OR μ tm ρ o) (he : evPure tm aop = some v) : PureOk P o ρ μ v := by
  simp only [compOp, compOpB, ho] at hc
  split at hc
  · rename_i fs hfs
    simp only [bind, Option.bind_eq_some_iff] at hc
    obtain ⟨f, hf, n, hn, hc⟩ := hc
    split at hc
    · cases hc
    rename_i hz
    simp only [pure, Option.some.injEq] at hc
    subst hc
    simp only [evPure, evPureB] at he
    split at he
    · rename_i b off hx
      have := hr x (by simp [ho, Op.operands]) _ hx
      simp only [VR] at this
      obtain ⟨m, hm, e⟩ := this
      simp only [Option.some.injEq] at he
      subst he
      refine ⟨.pointer (some ⟨m.b, m.base + (off + f.offset), none⟩), ⟨m, hm, rfl⟩, fun w => ?_⟩
      simp [execOp, ho, Instr.fieldAt, r_und hfs, hf, e, Instr.sureAddr, fieldPlace, r_size hn, hz, add_addr, Nat.add_assoc]
    · cases he
  · cases hc

theorem p_extract {x : Operand} {i : Nat} (ho : o.op = .extract x i) (hc : compOp P o = some aop) (hr : OR μ tm ρ o) (he : evPure tm aop = some v) : PureOk P o ρ μ v := by
  simp only [compOp, compOpB, ho, Option.some.injEq] at hc
  subst hc
  simp only [evPure, evPureB] at he
  split at he
  · rename_i vs hx
    have := hr x (by simp [ho, Op.operands]) _ hx
    simp only [VR] at this
    obtain ⟨us, e, hu⟩ := this
    obtain ⟨u, hu1, hu2⟩ := hu.get i v he
    refine ⟨u, hu2, fun w => ?_⟩
    simp [execOp, ho, e, Instr.extract, hu1]
  · cases he

theorem p_un {op : UnOp} {t : TypeId} {x : Operand} (ho : o.op = .unOp op t x) (hc : compOp P o = some aop) (hr : OR μ tm ρ o) (he : evPure tm aop = some v) : PureOk P o ρ μ v := by
  simp only [compOp, compOpB, ho, Option.some.injEq] at hc
  subst hc
  simp only [evPure, evPureB] at he
  split at he
  · rename_i a hx
    have hv := hr x (by simp [ho, Op.operands]) _ hx
    unfold unA at he
    split at he
    · simp only [Option.some.injEq] at he; subst he
      simp only [VR] at hv
      exact ⟨_, vr_int, fun w => by simp [execOp, ho, hv, Op.unary, Op.intArith]⟩
    · simp only [Option.some.injEq] at he; subst he
      simp only [VR] at hv
      exact ⟨_, vr_int, fun w => by simp [execOp, ho, hv, Op.unary, Op.intBits]⟩
    · simp only [Option.some.injEq] at he; subst he
      simp only [VR] at hv
      exact ⟨_, vr_bool, fun w => by simp [execOp, ho, hv, Op.unary]⟩
    · cases he
  · cases he

theorem p_mkFunc {f : Fn} {a b : Array Operand} (ho : o.op = .makeFunc f a b) (hc : compOp P o = some aop) (hr : OR μ tm ρ o) (he : evPure tm aop = some v) : PureOk P o ρ μ v := by
  cases f <;> simp only [compOp, compOpB, ho, Option.some.injEq] at hc <;> try (cases hc; done)
  subst hc
  simp only [evPure, evPureB] at he
  split at he
  · rename_i as bs h1 h2
    simp only [Option.some.injEq] at he
    subst he
    refine ⟨_, ⟨_, _, rfl, opnds_VR (fun x hx => hr x (by simp [ho, Op.operands] at *; exact .inl hx)) h1, opnds_VR (fun x hx => hr x (by simp [ho, Op.operands] at *; exact .inr hx)) h2⟩, fun w => ?_⟩
    have e : ∀ a : Array Operand, Array.map ρ a = { toList := List.map ρ a.toList } := fun a => by rw [← Array.toList_map]
    simp [execOp, ho, Instr.makeFunc, e]
  · cases he

theorem p_idxStr {t : TypeId} {x i : Operand} (ho : o.op = .index t x i) (hu : P.underlying t = some .string) (hc : compOp P o = some aop) (hr : OR μ tm ρ o) (he : evPure tm aop = some v) : PureOk P o ρ μ v := by
  simp only [compOp, compOpB, ho, hu, Option.some.injEq] at hc
  subst hc
  simp only [evPure, evPureB] at he
  split at he
  · rename_i s k n h1 h2
    have a1 := hr x (by simp [ho, Op.operands]) _ h1
    have a2 := hr i (by simp [ho, Op.operands]) _ h2
    simp only [VR] at a1 a2
    split at he
    · rename_i hn
      split at he
      · rename_i b hb
        simp only [Option.some.injEq] at he
        subst he
        refine ⟨_, vr_int, fun w => ?_⟩
        have hg : (⟨s.toArray⟩ : ByteArray)[n.toNat]? = some b := by
          obtain ⟨hl, hb⟩ := List.getElem?_eq_some_iff.1 hb
          have : n.toNat < (⟨s.toArray⟩ : ByteArray).size := by simpa [ByteArray.size] using hl
          rw [getElem?_pos (⟨s.toArray⟩ : ByteArray) n.toNat this]
          subst hb
          rfl
        simp [execOp, ho, a1, a2, Instr.index, r_und hu, asIntOf, hn, hg]
      · cases he
    · cases he
  · cases he

theorem cut_VRs {c cs : List AV} {vs : List Value} {off n : Nat} (h : VRs μ c vs) (e : cut c off n = some cs) : off + n ≤ vs.length ∧ VRs μ cs ((vs.drop off).take n) := by
  unfold cut at e
  split at e
  · simp only [Option.some.injEq] at e
    subst e
    exact ⟨by rw [h.length]; assumption, (h.drop off).take n⟩
  · cases e

theorem part_ok {t : TypeId} {g : Bool} {cs : List AV} {vs : List Value} {off n : Nat} {r : AV} (hg : aggQ P t = some g) (hn : sizeQ P t = some n) (h : VRs μ cs vs) (e : partOf g cs off n = some r) :
    ∃ r', VR μ r r' ∧ ∀ w, (part t ⟨vs⟩ off).run P w = .ok r' w := by
  unfold partOf at e
  cases g with
  | true =>
    simp only [if_true, Option.map_eq_some_iff] at e
    obtain ⟨c, hc, rfl⟩ := e
    obtain ⟨h1, h2⟩ := cut_VRs h hc
    refine ⟨.agg ⟨(vs.drop off).take n⟩, ⟨_, rfl, h2⟩, fun w => ?_⟩
    simp only [part, Sem.run_bind, r_isAgg hg, Result.andThen_ok, if_true, r_size hn, Sem.run_pure]
    congr 2
    rw [← Array.toList_inj]
    simp [List.extract_eq_take_drop]
  | false =>
    simp only [Bool.false_eq_true, if_false] at e
    obtain ⟨u, hu, hv⟩ := h.get off r e
    refine ⟨u, hv, fun w => ?_⟩
    simp [part, r_isAgg hg, hu]

theorem p_idxArr {t el : TypeId} {len : Nat} {x i : Operand} (ho : o.op = .index t x i) (hu : P.underlying t = some (.array len el)) (hc : compOp P o = some aop) (hr : OR μ tm ρ o) (he : evPure tm aop = some v) : PureOk P o ρ μ v := by
  simp only [compOp, compOpB, ho, hu, bind, Option.bind_eq_some_iff, pure, Option.some.injEq] at hc
  obtain ⟨n, hn, g, hg, rfl⟩ := hc
  simp only [evPure, evPureB] at he
  split at he
  · rename_i cs k q h1 h2
    have a1 := hr x (by simp [ho, Op.operands]) _ h1
    have a2 := hr i (by simp [ho, Op.operands]) _ h2
    simp only [VR] at a1 a2
    obtain ⟨vs, e1, hv⟩ := a1
    split at he
    · rename_i hq
      obtain ⟨r', hr', hw⟩ := part_ok hg hn hv he
      refine ⟨r', hr', fun w => ?_⟩
      simp [execOp, ho, e1, a2, Instr.index, r_und hu, asIntOf, hq, r_size hn, hw]
    · cases he
  · cases he

theorem p_field {t : TypeId} {x : Operand} {i : Nat} (ho : o.op = .field t x i) (hc : compOp P o = some aop) (hr : OR μ tm ρ o) (he : evPure tm aop = some v) : PureOk P o ρ μ v := by
  simp only [compOp, compOpB, ho] at hc
  split at hc
  · rename_i fs hfs
    simp only [bind, Option.bind_eq_some_iff, pure, Option.some.injEq] at hc
    obtain ⟨f, hf, n, hn, g, hg, rfl⟩ := hc
    simp only [evPure, evPureB] at he
    split at he
    · rename_i cs hx
      have := hr x (by simp [ho, Op.operands]) _ hx
      simp only [VR] at this
      obtain ⟨vs, e, hv⟩ := this
      obtain ⟨r', hr', hw⟩ := part_ok hg hn hv he
      refine ⟨r', hr', fun w => ?_⟩
      simp [execOp, ho, Instr.field, r_und hfs, hf, e, asAgg, hw]
    · cases he
  · cases hc

theorem p_idxAddr {t : TypeId} {x i : Operand} (ho : o.op = .indexAddr t x i) (hc : compOp P o = some aop) (hr : OR μ tm ρ o) (he : evPure tm aop = some v) : PureOk P o ρ μ v := by
  simp only [compOp, compOpB, ho] at hc
  split at hc
  · rename_i el hu
    simp only [bind, Option.bind_eq_some_iff, pure, Option.some.injEq] at hc
    obtain ⟨n, hn, rfl⟩ := hc
    simp only [evPure, evPureB] at he
    split at he
    · rename_i b off l c ex es k q _ h1 h2
      have a1 := hr x (by simp [ho, Op.operands]) _ h1
      have a2 := hr i (by simp [ho, Op.operands]) _ h2
      simp only [VR] at a1 a2
      obtain ⟨m, off', c', hm, e, h3, h4, h5, _⟩ := a1
      split at he
      · rename_i hq
        simp only [Option.some.injEq] at he
        subst he
        have hoff : off' = m.base + off := by rcases h3 with h | h; exact h; omega
        refine ⟨_, ⟨m, hm, rfl⟩, fun w => ?_⟩
        have hq1 : 0 ≤ q ∧ q < (l : Int) := ⟨hq.1, hq.2.1⟩
        simp [execOp, ho, e, a2, Instr.indexAt, asIntOf, r_und hu, hq1, r_size hn, add_addr, hoff, Nat.add_assoc]
      · cases he
    · rename_i heq _ _; cases heq
    · cases he
  · rename_i len el hu
    simp only [bind, Option.bind_eq_some_iff, pure, Option.some.injEq] at hc
    obtain ⟨n, hn, rfl⟩ := hc
    simp only [evPure, evPureB] at he
    split at he
    · rename_i heq _ _; cases heq
    · rename_i l b off k q heq h1 h2
      have a1 := hr x (by simp [ho, Op.operands]) _ h1
      have a2 := hr i (by simp [ho, Op.operands]) _ h2
      simp only [VR] at a1 a2
      obtain ⟨m, hm, e⟩ := a1
      cases heq
      split at he
      · rename_i hq
        simp only [Option.some.injEq] at he
        subst he
        refine ⟨_, ⟨m, hm, rfl⟩, fun w => ?_⟩
        simp [execOp, ho, e, a2, Instr.indexAt, asIntOf, r_und hu, hq, r_size hn, add_addr, Instr.sureAddr, Nat.add_assoc]
      · cases he
    · cases he
  · cases hc
end
end Go.AM
end
