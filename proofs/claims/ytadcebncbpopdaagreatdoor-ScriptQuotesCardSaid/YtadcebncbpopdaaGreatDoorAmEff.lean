/-
  AmEff: a part of the abstract machine that stands for runs of the program in the model: no statement of the seat is in it.
-/
import Derived.Test.YtadcebncbpopdaaGreatDoorAmPost
set_option linter.unusedSimpArgs false
noncomputable section
namespace Go.AM
section
variable {P : Program} {o : Oper} {aop : AOp} {tm : Tm} {ρ : Operand → Value} {μ : Mu} {v : AV} {g : G} {h h' : AH} {w : World} {callH : CallH}

def EffOk (P : Program) (o : Oper) (ρ : Operand → Value) (μ : Mu) (g : G) (h : AH) (w : World) (v : AV) (h' : AH) : Prop :=
  ∃ x v' w' μ', (execOp ρ o).run P w = .ok x w' ∧ (x = .value v' ∨ (x = .skip ∧ v' = undef)) ∧ VR μ' v v' ∧ Post μ g h w h' w' μ'

theorem vr_undef : VR μ (.tup []) undef := ⟨[], rfl, rfl⟩
theorem vr_unit : VR μ (.tup []) (.tuple #[]) := ⟨[], rfl, rfl⟩

theorem ef_store {t : TypeId} {x y : Operand} (ho : o.op = .store t x y) (hc : compOp P o = some aop) (hr : OR μ tm ρ o) (s : St μ g h w) (he : evEff callH tm h aop = some (v, h')) : EffOk P o ρ μ g h w v h' := by
  simp only [compOp, compOpB, ho, bind, Option.bind_eq_some_iff, pure, Option.some.injEq] at hc
  obtain ⟨n, hn, rfl⟩ := hc
  simp only [evEff, evEffB] at he
  split at he
  · rename_i i off u h1 h2
    have a1 := hr x (by simp [ho, Op.operands]) _ h1
    have a2 := hr y (by simp [ho, Op.operands]) _ h2
    simp only [VR] at a1
    obtain ⟨m, hm, e⟩ := a1
    split at he
    · rename_i hlen
      simp only [Option.map_eq_some_iff, Prod.mk.injEq] at he
      obtain ⟨h1', hw, rfl, rfl⟩ := he
      have hcells := a2.cells
      obtain ⟨hrun, hp⟩ := write_ok s hw hm hcells
      refine ⟨.skip, undef, _, μ, ?_, .inr ⟨rfl, rfl⟩, vr_undef, hp⟩
      have hsz : (ρ y).cells.size = n := by rw [← hlen, ← hcells.length]; simp
      simp [execOp, ho, Instr.storeAt, e, Instr.sureAddr, storeVar, r_size hn, hsz, hrun]
    · cases he
  · cases he

theorem ef_bytesSame {sT d : TypeId} {x : Operand} (ho : o.op = .convert sT d x) (hc : compOp P o = some aop) (hr : OR μ tm ρ o) (s : St μ g h w) (he : evEff callH tm h aop = some (v, h')) : EffOk P o ρ μ g h w v h' := by
  simp only [compOp, compOpB, ho, bind, Option.bind_eq_some_iff, pure, Option.some.injEq] at hc
  obtain ⟨c, hcv, rfl⟩ := hc
  unfold compConv at hcv
  simp only [evEff, evEffB] at he
  split at he <;> (try (cases he; done))
  rename_i i off n cc ex es hx
  have a1 := hr x (by simp [ho, Op.operands]) _ hx
  split at he
  · rename_i ex' fz e cs hB
    simp only [Option.some.injEq, Prod.mk.injEq] at he
    obtain ⟨rfl, rfl⟩ := he
    split at hcv <;> (try split at hcv) <;> (try (cases hcv; done))
    rename_i e0 el h1 h2 h3
    obtain ⟨rfl, h4⟩ := h3
    have hee : e0 = el := by rw [h1] at h2; cases h2; rfl
    subst hee
    have a2 := a1
    simp only [VR] at a2
    obtain ⟨m, off', c', hm, e1, _⟩ := a2
    obtain ⟨ob, hob, hBR⟩ := s.sim.blk i _ m (s.ext i _ hB) hm
    have hBR0 := hBR
    simp only [BR] at hBR
    obtain ⟨cv, fr, rfl, q1, q2, q3, q4, q5⟩ := hBR
    have hsh : w.shape? m.b = some (e, cv.size) := by simp [World.shape?, hob]
    let fr' : Nat × Nat := if fr.1 == fr.2 then (cv.size, cv.size + 1) else (min fr.1 cv.size, max fr.2 (cv.size + 1))
    have hheap : (w.freeze ⟨m.b, cv.size, none⟩ 1).heap[m.b]? = some (.cells cv e fr') := by
      simp [World.freeze, Array.getElem?_modify, hob, fr']
    have hoth : ∀ b, b ≠ m.b → (w.freeze ⟨m.b, cv.size, none⟩ 1).heap[b]? = w.heap[b]? := by
      intro b hb
      simp only [World.freeze]
      rw [if_neg (by decide)]
      simp only [Array.getElem?_modify]
      rw [if_neg (fun e => hb e.symm)]
    have hsz : (w.freeze ⟨m.b, cv.size, none⟩ 1).heap.size = w.heap.size := by
      simp [World.freeze]
    refine ⟨.value (ρ x), ρ x, w.freeze ⟨m.b, cv.size, none⟩ 1, μ, ?_, .inl rfl, a1, ?_⟩
    · simp [execOp, ho, e1, convert, r_und h1, r_und h2, r_und (isU8_ok h4), markStringish, hsh]
    · refine post_set s hB hm rfl ?_ hheap hoth hsz (by simp [World.freeze]) (by simp [World.freeze]) (by simp [World.freeze])
      simp only [BR]
      refine ⟨cv, fr', rfl, q1, q2, q3, fun hz => ?_, q5⟩
      simp only [fr']
      split
      · right; simp; omega
      · rename_i hne
        rcases q4 hz with h | h
        · simp [h] at hne
        · right; simp; omega
  · cases he

theorem run_setObj {r : Nat} {ob ob' : Obj} (hb : w.heap[r]? = some ob) (hn : ∀ c e f, ob ≠ .cells c e f) : (setObj r ob').run P w = .ok () { w with heap := w.heap.setIfInBounds r ob' } := by
  cases ob <;> first | exact absurd rfl (hn _ _ _) | simp [setObj, Sem.run, hb]

theorem post_obj (s : St μ g h w) {i : Nat} {B B' : AB} {m : MI} {o' : Obj} (hB : h.get i = some B) (hm : μ i = some m) (hnr : B.isRo = false) (hBR : BR μ m B' o') :
    Post μ g h w (h.set i B') { w with heap := w.heap.setIfInBounds m.b o' } μ := by
  have hlt := (s.sim.bnd i m hm).2
  refine post_set s hB hm hnr hBR ?_ ?_ (by simp) rfl rfl rfl
  · simp [hlt]
  · intro b hb
    simp only
    rw [Array.getElem?_setIfInBounds_ne (fun e => hb e.symm)]

theorem er_modify {k v : AV} {k' v' : Value} (hk : VR μ k k') (hv : VR μ v v') : ∀ {es : List (AV × AV × Nat)} {es' : List MapEntry} (j : Nat), ER μ es es' →
    ER μ (es.modify j fun e => (k, v, e.2.2)) (es'.modify j fun e => { e with key := k', val := v' })
  | [], es', j, h => by
    simp only [ER] at h
    subst h
    cases j <;> simp [ER]
  | (a, b, n) :: es, es', j, h => by
    simp only [ER] at h
    obtain ⟨e, s, rfl, h1, h2, h3, h4⟩ := h
    cases j with
    | zero => exact ⟨_, _, rfl, hk, hv, h3, h4⟩
    | succ j =>
      simp only [List.modify_succ_cons]
      exact ⟨_, _, rfl, h1, h2, h3, er_modify hk hv j h4⟩

theorem er_push {k v : AV} {k' v' : Value} {n : Nat} (hk : VR μ k k') (hv : VR μ v v') : ∀ {es : List (AV × AV × Nat)} {es' : List MapEntry}, ER μ es es' →
    ER μ (es ++ [(k, v, n)]) (es' ++ [{ key := k', val := v', born := n }])
  | [], es', h => by
    simp only [ER] at h
    subst h
    exact ⟨_, _, rfl, hk, hv, rfl, rfl⟩
  | (a, b, q) :: es, es', h => by
    simp only [ER] at h
    obtain ⟨e, s, rfl, h1, h2, h3, h4⟩ := h
    exact ⟨_, _, rfl, h1, h2, h3, er_push hk hv h4⟩

theorem er_erase : ∀ {es : List (AV × AV × Nat)} {es' : List MapEntry} (j : Nat), ER μ es es' → ER μ (es.eraseIdx j) (es'.eraseIdx j)
  | [], es', j, h => by
    simp only [ER] at h
    subst h
    simp [ER]
  | (a, b, q) :: es, es', j, h => by
    simp only [ER] at h
    obtain ⟨e, s, rfl, h1, h2, h3, h4⟩ := h
    cases j with
    | zero => simpa using h4
    | succ j => exact ⟨_, _, rfl, h1, h2, h3, er_erase j h4⟩

theorem ba_beq (a b : ByteArray) : (a == b) = true ↔ a = b := by
  rw [beq_toListBytes, ByteArray.toList_eq, ByteArray.toList_eq]
  constructor
  · intro h
    have := eq_of_beq h
    obtain ⟨⟨x⟩⟩ := a
    obtain ⟨⟨y⟩⟩ := b
    simp at this
    rw [this]
  · rintro rfl; simp

theorem sameBits_of {kt : TypeDesc} {k e : Value} (h : Instr.sameNow kt k e = some true) (hk : (∃ q n, k = .int q n) ∨ (∃ s, k = .string s)) : e = k := by
  rcases hk with ⟨q, n, rfl⟩ | ⟨s, rfl⟩
  · cases kt <;> cases e <;> simp [Instr.sameNow] at h
    obtain ⟨rfl, rfl⟩ := h
    rfl
  · cases kt <;> cases e <;> simp [Instr.sameNow] at h
    rw [(ba_beq _ _).1 h]

theorem sameBits_refl {k : Value} (hk : (∃ q n, k = .int q n) ∨ (∃ s, k = .string s)) (n : Nat) : Instr.sameBits n k k = true := by
  rcases hk with ⟨q, i, rfl⟩ | ⟨s, rfl⟩
  · simp [Instr.sameBits]
  · simp only [Instr.sameBits]
    exact (ba_beq _ _).2 rfl

theorem ef_mapUpdate {t : TypeId} {m k y : Operand} (ho : o.op = .mapUpdate t m k y) (hc : compOp P o = some aop) (hr : OR μ tm ρ o) (s : St μ g h w) (he : evEff callH tm h aop = some (v, h')) : EffOk P o ρ μ g h w v h' := by
  simp only [compOp, compOpB, ho] at hc
  split at hc
  · rename_i kt el hu
    simp only [Option.map_eq_some_iff] at hc
    obtain ⟨ks, hks, rfl⟩ := hc
    simp only [evEff, evEffB] at he
    split at he
    · rename_i i kv vv h1 h2 h3
      have a1 := hr m (by simp [ho, Op.operands]) _ h1
      have a2 := hr k (by simp [ho, Op.operands]) _ h2
      have a3 := hr y (by simp [ho, Op.operands]) _ h3
      simp only [VR] at a1
      obtain ⟨mi, hm, e1⟩ := a1
      split at he
      · rename_i es cl hB
        obtain ⟨es', hh, hE⟩ := map_ok s hB hm
        split at he
        · rename_i hko
          split at he
          · rename_i j xv hf
            obtain ⟨r', hfk, hmm⟩ := findKey_ok hks a2 hko hE hf
            cases r' with
            | none => exact hmm.elim
            | some q =>
              obtain ⟨j', x'⟩ := q
              obtain ⟨rfl, _, e0, kt', hej, hsm⟩ := hmm
              simp only [Option.some.injEq, Prod.mk.injEq] at he
              obtain ⟨rfl, rfl⟩ := he
              have hkey := sameBits_of hsm (key_form a2 hko)
              refine ⟨.skip, undef, { w with heap := w.heap.setIfInBounds mi.b (.map ⟨es'.modify j fun e => { e with key := ρ k, val := ρ y }⟩ cl) }, μ, ?_, .inr ⟨rfl, rfl⟩, vr_undef, post_obj s hB hm rfl ⟨_, rfl, er_modify a2 a3 j hE⟩⟩
              have hmod : (⟨es'⟩ : Array MapEntry).modify j (fun e => { e with key := ρ k, val := ρ y }) = ⟨es'.modify j fun e => { e with key := ρ k, val := ρ y }⟩ := by
                rw [← Array.toList_inj]; simp
              simp [execOp, ho, e1, Instr.mapUpdate, r_und hu, run_getObj_map hh, checkKey_ok hks a2 hko, hfk, hej, hkey, Instr.keyThatStays, sameBits_refl (key_form a2 hko), run_setObj hh, hmod]
          · rename_i hf
            obtain ⟨r', hfk, hmm⟩ := findKey_ok hks a2 hko hE hf
            cases r' with
            | some q => exact hmm.elim
            | none =>
              simp only [Option.some.injEq, Prod.mk.injEq] at he
              obtain ⟨rfl, rfl⟩ := he
              refine ⟨.skip, undef, { w with heap := w.heap.setIfInBounds mi.b (.map ⟨es' ++ [{ key := ρ k, val := ρ y, born := cl }]⟩ (cl + 1)) }, μ, ?_, .inr ⟨rfl, rfl⟩, vr_undef, post_obj s hB hm rfl ⟨_, rfl, er_push a2 a3 hE⟩⟩
              have hpush : (⟨es'⟩ : Array MapEntry).push { key := ρ k, val := ρ y, born := cl } = ⟨es' ++ [{ key := ρ k, val := ρ y, born := cl }]⟩ := by
                rw [← Array.toList_inj]; simp
              simp [execOp, ho, e1, Instr.mapUpdate, r_und hu, run_getObj_map hh, checkKey_ok hks a2 hko, hfk, run_setObj hh, hpush]
          · cases he
        · cases he
      · cases he
    · cases he
  · cases hc

theorem call_args {c : Call} {b : Builtin} (ho : o.op = .call c) (hb : c.callee = .builtin b) : ∀ {xs : List Operand}, c.args.toList = xs → (∀ x ∈ xs, x ∈ o.op.operands) ∧ c.args.map ρ = ⟨xs.map ρ⟩ := by
  intro xs hx
  refine ⟨fun x hxx => ?_, ?_⟩
  · have : x ∈ c.args := by rw [← Array.mem_toList_iff, hx]; exact hxx
    simp [ho, Op.operands, Call.operands, hb, this]
  · rw [← Array.toList_inj]; simp [hx]

theorem ef_delete {c : Call} (ho : o.op = .call c) (hb : c.callee = .builtin .delete) {m k : Operand} (hargs : c.args.toList = [m, k]) (hc : compOp P o = some aop) (hr : OR μ tm ρ o) (s : St μ g h w) (he : evEff callH tm h aop = some (v, h')) : EffOk P o ρ μ g h w v h' := by
  obtain ⟨hin, harr⟩ := call_args (ρ := ρ) ho hb hargs
  simp only [compOp, compOpB, ho, hb, hargs, bind, Option.bind_eq_some_iff] at hc
  obtain ⟨t, ht, hc⟩ := hc
  split at hc
  · rename_i kt el hu
    simp only [Option.map_eq_some_iff] at hc
    obtain ⟨ks, hks, rfl⟩ := hc
    have hrun : ∀ w, (execOp ρ o).run P w = ((Builtin.delete_ c.argTypes o.type #[ρ m, ρ k]).run P w).andThen fun v w' => .ok (.value v) w' := fun w => by
      simp [execOp, ho, resolve, hb, invoke, builtin, harr]
    simp only [evEff, evEffB] at he
    split at he
    · rename_i kv h1 h2
      have a1 := hr m (hin m (by simp)) _ h1
      have a2 := hr k (hin k (by simp)) _ h2
      simp only [VR] at a1
      split at he
      · rename_i hko
        simp only [Option.some.injEq, Prod.mk.injEq] at he
        obtain ⟨rfl, rfl⟩ := he
        refine ⟨.value (.tuple #[]), .tuple #[], w, μ, ?_, .inl rfl, vr_unit, Post.refl s⟩
        rw [hrun]
        simp [Builtin.delete_, ht, r_und hu, a1, checkKey_ok hks a2 hko]
      · cases he
    · rename_i i kv h1 h2
      have a1 := hr m (hin m (by simp)) _ h1
      have a2 := hr k (hin k (by simp)) _ h2
      simp only [VR] at a1
      obtain ⟨mi, hm, e1⟩ := a1
      split at he
      · rename_i es cl hB
        obtain ⟨es', hh, hE⟩ := map_ok s hB hm
        split at he
        · rename_i hko
          split at he
          · rename_i j xv hf
            obtain ⟨r', hfk, hmm⟩ := findKey_ok hks a2 hko hE hf
            cases r' with
            | none => exact hmm.elim
            | some q =>
              obtain ⟨j', x'⟩ := q
              obtain ⟨rfl, _, _⟩ := hmm
              simp only [Option.some.injEq, Prod.mk.injEq] at he
              obtain ⟨rfl, rfl⟩ := he
              refine ⟨.value (.tuple #[]), .tuple #[], { w with heap := w.heap.setIfInBounds mi.b (.map ⟨es'.eraseIdx j⟩ cl) }, μ, ?_, .inl rfl, vr_unit, post_obj s hB hm rfl ⟨_, rfl, er_erase j hE⟩⟩
              have hers : (⟨es'⟩ : Array MapEntry).eraseIdxIfInBounds j = ⟨es'.eraseIdx j⟩ := by
                unfold Array.eraseIdxIfInBounds
                split
                · simp
                · rename_i hj
                  rw [List.eraseIdx_of_length_le (by simpa using hj)]
              rw [hrun]
              simp [Builtin.delete_, ht, r_und hu, e1, run_getObj_map hh, checkKey_ok hks a2 hko, hfk, run_setObj hh, hers]
          · rename_i hf
            obtain ⟨r', hfk, hmm⟩ := findKey_ok hks a2 hko hE hf
            cases r' with
            | some q => exact hmm.elim
            | none =>
              simp only [Option.some.injEq, Prod.mk.injEq] at he
              obtain ⟨rfl, rfl⟩ := he
              refine ⟨.value (.tuple #[]), .tuple #[], w, μ, ?_, .inl rfl, vr_unit, Post.refl s⟩
              have hself : ({ w with heap := w.heap.setIfInBounds mi.b (.map ⟨es'⟩ cl) } : World) = w := by
                have : w.heap.setIfInBounds mi.b (.map ⟨es'⟩ cl) = w.heap := by
                  apply Array.ext_getElem?
                  intro j
                  by_cases e : mi.b = j
                  · subst e
                    rw [hh]
                    have := (s.sim.bnd i mi hm).2
                    simp [this]
                  · rw [Array.getElem?_setIfInBounds_ne e]
                rw [this]
              rw [hrun]
              simp [Builtin.delete_, ht, r_und hu, e1, run_getObj_map hh, checkKey_ok hks a2 hko, hfk, run_setObj hh, hself]
          · cases he
        · cases he
      · cases he
    · cases he
  · cases hc
end
end Go.AM
end
