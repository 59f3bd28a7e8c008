/-
  AmEff2: a part of the abstract machine that stands for runs of the program in the model: no statement of the seat is in it.
-/
import Derived.Test.YtadcebncbpopdaaGreatDoorAmEff
import Derived.Laws.Append
set_option linter.unusedSimpArgs false
noncomputable section
namespace Go.AM
section
variable {P : Program} {o : Oper} {aop : AOp} {tm : Tm} {ρ : Operand → Value} {μ : Mu} {v : AV} {g : G} {h h' : AH} {w w' : World} {callH : CallH}

theorem ef_rangeMap {t : TypeId} {x : Operand} (ho : o.op = .range t x) (hc : compOp P o = some aop) (hr : OR μ tm ρ o) (s : St μ g h w) (he : evEff callH tm h aop = some (v, h')) : EffOk P o ρ μ g h w v h' := by
  simp only [compOp, compOpB, ho] at hc
  split at hc <;> (try (cases hc; done)) <;> simp only [Option.some.injEq] at hc <;> subst hc <;> simp only [evEff, evEffB] at he
  · cases he
  · rename_i kt el hu
    split at he
    · rename_i hx
      have a1 := hr x (by simp [ho, Op.operands]) _ hx
      simp only [VR] at a1
      simp only [Option.some.injEq, Prod.mk.injEq] at he
      obtain ⟨rfl, rfl⟩ := he
      have hm : (μ.put h.next ⟨w.heap.size, 0, 0⟩) h.next = some ⟨w.heap.size, 0, 0⟩ := by simp [Mu.put]
      refine ⟨.value (.pointer (some ⟨w.heap.size, 0, none⟩)), _, { w with heap := w.heap.push (.mapIter none 0 #[] 0) }, μ.put h.next ⟨w.heap.size, 0, 0⟩, ?_, .inl rfl, ⟨_, hm, rfl⟩, post_new s rfl rfl ⟨rfl, none, rfl, rfl⟩ rfl rfl rfl⟩
      simp [execOp, ho, a1, Instr.range, r_und hu]
    · rename_i i hx
      have a1 := hr x (by simp [ho, Op.operands]) _ hx
      simp only [VR] at a1
      obtain ⟨m, hm, e⟩ := a1
      split at he
      · rename_i es cl hB
        obtain ⟨es', hh, hE⟩ := map_ok s hB hm
        simp only [Option.some.injEq, Prod.mk.injEq] at he
        obtain ⟨rfl, rfl⟩ := he
        have hfr : μ h.next = none := by
          cases e : μ h.next with
          | none => rfl
          | some k => have := (s.sim.bnd _ _ e).1; omega
        have hm1 : (μ.put h.next ⟨w.heap.size, 0, 0⟩) h.next = some ⟨w.heap.size, 0, 0⟩ := by simp [Mu.put]
        have hm2 := Mu.le_put (m := ⟨w.heap.size, 0, 0⟩) hfr _ _ hm
        refine ⟨.value (.pointer (some ⟨w.heap.size, 0, none⟩)), _, { w with heap := w.heap.push (.mapIter (some m.b) cl #[] cl) }, μ.put h.next ⟨w.heap.size, 0, 0⟩, ?_, .inl rfl, ⟨_, hm1, rfl⟩, post_new s rfl rfl ⟨rfl, some m.b, rfl, _, hm2, rfl⟩ rfl rfl rfl⟩
        simp [execOp, ho, e, Instr.range, r_und hu, run_getObj_map hh]
      · cases he
    · cases he

theorem er_filter (p : Nat → Bool) : ∀ {es : List (AV × AV × Nat)} {es' : List MapEntry}, ER μ es es' → ER μ (es.filter fun e => p e.2.2) (es'.filter fun e => p e.born)
  | [], es', h => by simp only [ER] at h; subst h; rfl
  | (a, b, n) :: es, es', h => by
    simp only [ER] at h
    obtain ⟨e, s, rfl, h1, h2, h3, h4⟩ := h
    simp only [List.filter_cons, h3]
    split
    · exact ⟨_, _, rfl, h1, h2, h3, er_filter p h4⟩
    · exact er_filter p h4

theorem er_all (p : Nat → Bool) : ∀ {es : List (AV × AV × Nat)} {es' : List MapEntry}, ER μ es es' → es'.all (fun e => p e.born) = es.all fun e => p e.2.2
  | [], es', h => by simp only [ER] at h; subst h; rfl
  | (a, b, n) :: es, es', h => by
    simp only [ER] at h
    obtain ⟨e, s, rfl, h1, h2, h3, h4⟩ := h
    simp [h3, er_all p h4]

theorem ef_next {x : Operand} {st : Bool} (ho : o.op = .next x st) (hc : compOp P o = some aop) (hr : OR μ tm ρ o) (s : St μ g h w) (he : evEff callH tm h aop = some (v, h')) : EffOk P o ρ μ g h w v h' := by
  simp only [compOp, compOpB, ho, Option.some.injEq] at hc
  subst hc
  simp only [evEff, evEffB] at he
  split at he
  · rename_i r hx
    have a1 := hr x (by simp [ho, Op.operands]) _ hx
    simp only [VR] at a1
    obtain ⟨m, hm, e1⟩ := a1
    split at he
    · rename_i sq pos hB
      obtain ⟨ob, hob, hBR⟩ := s.sim.blk r _ m (s.ext r _ hB) hm
      simp only [BR] at hBR
      obtain ⟨hb0, rfl⟩ := hBR
      have hg1 : (getObj m.b).run P w = .ok (.stringIter ⟨sq.toArray⟩ pos) w := by simp [getObj, Sem.run, hob]
      have hsz : (⟨sq.toArray⟩ : ByteArray).size = sq.length := by simp [ByteArray.size]
      split at he
      · rename_i hlt
        simp only [Option.some.injEq, Prod.mk.injEq] at he
        obtain ⟨rfl, rfl⟩ := he
        refine ⟨.value (.tuple #[.bool true, goInt pos, .int .i32 (Utf8.decode ⟨sq.toArray⟩ pos).1]), _, { w with heap := w.heap.setIfInBounds m.b (.stringIter ⟨sq.toArray⟩ (pos + (Utf8.decode ⟨sq.toArray⟩ pos).2)) }, μ, ?_, .inl rfl,
          ⟨_, rfl, _, _, rfl, vr_bool, _, _, rfl, vr_int, _, _, rfl, vr_int, rfl⟩, post_obj s hB hm rfl ⟨hb0, rfl⟩⟩
        simp [execOp, ho, e1, hb0, Instr.next, hg1, hsz, hlt, run_setObj hob]
      · rename_i hlt
        simp only [Option.some.injEq, Prod.mk.injEq] at he
        obtain ⟨rfl, rfl⟩ := he
        refine ⟨.value (.tuple #[.bool false]), _, w, μ, ?_, .inl rfl, ⟨_, rfl, _, _, rfl, vr_bool, rfl⟩, Post.refl s⟩
        simp [execOp, ho, e1, hb0, Instr.next, hg1, hsz, hlt]
    · rename_i since seen last hB
      obtain ⟨ob, hob, hBR⟩ := s.sim.blk r _ m (s.ext r _ hB) hm
      simp only [BR] at hBR
      obtain ⟨hb0, i', rfl, rfl⟩ := hBR
      have hg1 : (getObj m.b).run P w = .ok (.mapIter none since ⟨seen⟩ last) w := by simp [getObj, Sem.run, hob]
      simp only [Option.some.injEq, Prod.mk.injEq] at he
      obtain ⟨rfl, rfl⟩ := he
      refine ⟨.value (.tuple #[.bool false]), _, w, μ, ?_, .inl rfl, ⟨_, rfl, _, _, rfl, vr_bool, rfl⟩, Post.refl s⟩
      simp [execOp, ho, e1, hb0, Instr.next, hg1]
    · rename_i mp since seen last hB
      obtain ⟨ob, hob, hBR⟩ := s.sim.blk r _ m (s.ext r _ hB) hm
      simp only [BR] at hBR
      obtain ⟨hb0, i', rfl, k, hk, rfl⟩ := hBR
      have hg1 : (getObj m.b).run P w = .ok (.mapIter (some k.b) since ⟨seen⟩ last) w := by simp [getObj, Sem.run, hob]
      split at he
      · rename_i es cl hM
        obtain ⟨es', hh, hE⟩ := map_ok s hM hk
        split at he
        · rename_i hcond
          obtain ⟨rfl, hdead⟩ := hcond
          have hdead' : (!(⟨seen⟩ : Array Nat).isEmpty && !(⟨es'⟩ : Array MapEntry).isEmpty && (⟨es'⟩ : Array MapEntry).all (fun e => decide (e.born ≥ cl))) = false := by
            have h1 : (⟨es'⟩ : Array MapEntry).isEmpty = es.isEmpty := by
              have := hE.length
              cases es <;> cases es' <;> simp_all
            have h2 : (⟨es'⟩ : Array MapEntry).all (fun e => decide (e.born ≥ cl)) = es.all fun e => decide (e.2.2 ≥ cl) := by
              have := er_all (fun n => decide (n ≥ cl)) hE
              simpa using this
            have h3 : (⟨seen⟩ : Array Nat).isEmpty = seen.isEmpty := by cases seen <;> simp
            rw [h1, h2, h3]
            exact hdead
          have hleft : (⟨es'⟩ : Array MapEntry).filter (fun e => !(⟨seen⟩ : Array Nat).contains e.born) = ⟨es'.filter fun e => !seen.contains e.born⟩ := by
            rw [← Array.toList_inj]; simp
          have hfil := er_filter (fun n => !seen.contains n) hE
          split at he
          · rename_i hl
            rw [hl] at hfil
            simp only [ER] at hfil
            simp only [Option.some.injEq, Prod.mk.injEq] at he
            obtain ⟨rfl, rfl⟩ := he
            refine ⟨.value (.tuple #[.bool false]), _, w, μ, ?_, .inl rfl, ⟨_, rfl, _, _, rfl, vr_bool, rfl⟩, Post.refl s⟩
            simp only [execOp, ho, e1, hb0, Instr.next, hg1, run_getObj_map hh, Sem.run_bind, Result.andThen_ok, hdead', Nat.add_zero, Bool.false_eq_true, if_false, hleft, hfil]
            simp [Question.forced]
          · rename_i e hl
            split at he
            · rename_i hsin
              rw [hl] at hfil
              obtain ⟨ek, ev, en⟩ := e
              simp only [ER] at hfil
              obtain ⟨e', s', hee, k1, k2, k3, rfl⟩ := hfil
              simp only [Option.some.injEq, Prod.mk.injEq] at he
              obtain ⟨rfl, rfl⟩ := he
              have hpush : (⟨seen⟩ : Array Nat).push e'.born = ⟨seen ++ [en]⟩ := by rw [← Array.toList_inj]; simp [k3]
              refine ⟨.value (.tuple #[.bool true, e'.key, e'.val]), _, { w with heap := w.heap.setIfInBounds m.b (.mapIter (some k.b) since ⟨seen ++ [en]⟩ cl) }, μ, ?_, .inl rfl,
                ⟨_, rfl, _, _, rfl, vr_bool, _, _, rfl, k1, _, _, rfl, k2, rfl⟩, post_obj s hB hm rfl ⟨hb0, _, rfl, k, hk, rfl⟩⟩
              have hs1 : e'.born < since := by rw [k3]; exact hsin
              have hs2 : ¬ (since ≤ e'.born) := by omega
              simp only [execOp, ho, e1, hb0, Instr.next, hg1, run_getObj_map hh, Sem.run_bind, Result.andThen_ok, hdead', Nat.add_zero, Bool.false_eq_true, if_false, hleft, hee]
              simp [Question.forced, hs1, hs2, run_setObj hob]
              rw [k3]
            · cases he
          · cases he
        · cases he
      · cases he
    · cases he
  · cases he

theorem zeroCells_ok (zs : Array Value) (n : Nat) : Builtin.zeroCells zs n = ⟨(List.replicate n zs.toList).flatten⟩ := range_mod zs n

theorem ef_clear {c : Call} (ho : o.op = .call c) (hb : c.callee = .builtin .clear) {x : Operand} (hargs : c.args.toList = [x]) (hc : compOp P o = some aop) (hr : OR μ tm ρ o) (s : St μ g h w) (he : evEff callH tm h aop = some (v, h')) : EffOk P o ρ μ g h w v h' := by
  obtain ⟨hin, harr⟩ := call_args (ρ := ρ) ho hb hargs
  have hrun : ∀ w, (execOp ρ o).run P w = ((Builtin.clear_ c.argTypes o.type #[ρ x]).run P w).andThen fun v w' => .ok (.value v) w' := fun w => by
    simp [execOp, ho, resolve, hb, invoke, builtin, harr]
  simp only [compOp, compOpB, ho, hb, hargs, bind, Option.bind_eq_some_iff] at hc
  obtain ⟨t, ht, hc⟩ := hc
  have hz : ∃ d z, P.underlying t = some d ∧ aop = .clear z x ∧ ((∃ e, d = .slice e ∧ zeroOf P e = some z) ∨ z = []) := by
    split at hc
    · rename_i kt el hu
      simp only [pure, Option.some.injEq] at hc
      exact ⟨_, [], hu, hc.symm, .inr rfl⟩
    · rename_i e hu
      simp only [Option.bind_eq_some_iff, pure, Option.some.injEq] at hc
      obtain ⟨z, hz, rfl⟩ := hc
      exact ⟨_, z, hu, rfl, .inl ⟨e, rfl, hz⟩⟩
    · cases hc
  obtain ⟨d, z, hu, rfl, hzz⟩ := hz
  simp only [evEff, evEffB] at he
  split at he
  · rename_i h1
    have a1 := hr x (hin x (by simp)) _ h1
    simp only [VR] at a1
    simp only [Option.some.injEq, Prod.mk.injEq] at he
    obtain ⟨rfl, rfl⟩ := he
    refine ⟨.value (.tuple #[]), .tuple #[], w, μ, ?_, .inl rfl, vr_unit, Post.refl s⟩
    rw [hrun]
    simp [Builtin.clear_, ht, r_und hu, a1]
  · rename_i h1
    have a1 := hr x (hin x (by simp)) _ h1
    simp only [VR] at a1
    simp only [Option.some.injEq, Prod.mk.injEq] at he
    obtain ⟨rfl, rfl⟩ := he
    refine ⟨.value (.tuple #[]), .tuple #[], w, μ, ?_, .inl rfl, vr_unit, Post.refl s⟩
    rw [hrun]
    simp [Builtin.clear_, ht, r_und hu, a1]
  · rename_i i h1
    have a1 := hr x (hin x (by simp)) _ h1
    simp only [VR] at a1
    obtain ⟨mi, hm, e1⟩ := a1
    split at he
    · rename_i es cl hB
      obtain ⟨es', hh, hE⟩ := map_ok s hB hm
      simp only [Option.some.injEq, Prod.mk.injEq] at he
      obtain ⟨rfl, rfl⟩ := he
      refine ⟨.value (.tuple #[]), .tuple #[], { w with heap := w.heap.setIfInBounds mi.b (.map #[] cl) }, μ, ?_, .inl rfl, vr_unit, post_obj s hB hm rfl ⟨[], rfl, rfl⟩⟩
      rw [hrun]
      simp [Builtin.clear_, ht, r_und hu, e1, run_getObj_map hh, run_setObj hh]
    · cases he
  · rename_i i off n cc ex es h1
    have a1 := hr x (hin x (by simp)) _ h1
    split at he
    · rename_i hes
      obtain ⟨rfl, hpos⟩ := hes
      have a2 := a1
      simp only [VR] at a2
      obtain ⟨m, off', c', hm, e1, hoff, hlc, hcc, _⟩ := a2
      split at he
      · rename_i hn0
        simp only [Option.some.injEq, Prod.mk.injEq] at he
        obtain ⟨rfl, rfl⟩ := he
        refine ⟨.value (.tuple #[]), .tuple #[], w, μ, ?_, .inl rfl, vr_unit, Post.refl s⟩
        rw [hrun]
        simp [Builtin.clear_, ht, r_und hu, e1, hn0]
      · rename_i hn0
        simp only [Option.map_eq_some_iff, Prod.mk.injEq] at he
        obtain ⟨h1', hw, rfl, rfl⟩ := he
        rcases hzz with ⟨e, rfl, hz⟩ | rfl
        · obtain ⟨zv, hzr, hzw, _⟩ := zeroOf_ok (μ := μ) hz
          obtain ⟨hst, hp⟩ := write_ok s hw hm (repl_VRs hzr n)
          have ho' : off' = m.base + off := by rcases hoff with h | h; exact h; omega
          subst ho'
          refine ⟨.value (.tuple #[]), .tuple #[], _, μ, ?_, .inl rfl, vr_unit, hp⟩
          rw [hrun]
          have hn : ∃ n', n = n' + 1 := ⟨n - 1, by omega⟩
          obtain ⟨n', rfl⟩ := hn
          simp [Builtin.clear_, ht, r_und hu, e1, hzw, zeroCells_ok, hst]
        · simp at hpos
    · cases he
  · cases he
end
end Go.AM
end
