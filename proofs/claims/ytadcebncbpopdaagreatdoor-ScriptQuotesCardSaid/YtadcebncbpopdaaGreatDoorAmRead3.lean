/-
  AmRead3: a part of the abstract machine that stands for runs of the program in the model: no statement of the seat is in it.
-/
import Derived.Test.YtadcebncbpopdaaGreatDoorAmRead2
import Derived.Lib.Bytealg
set_option linter.unusedSimpArgs false
noncomputable section
namespace Go.AM
section
variable {P : Program} {o : Oper} {aop : AOp} {tm : Tm} {ρ : Operand → Value} {μ : Mu} {v : AV} {g : G} {h : AH} {w : World}

theorem rd_sliceArr_at {n size : Nat} {x : Operand} {lo hi mx : Option Operand} (hr : ∀ y, (y = x ∨ lo = some y ∨ hi = some y) → ∀ a, opnd tm y = some a → VR μ a (ρ y)) (s : St μ g h w) (he : evRead tm h (.sliceArr n size x lo hi mx) = some v) :
    ∃ (m : MI) (off l hh : Nat), ρ x = .pointer (some ⟨m.b, off, none⟩) ∧ mx = none ∧ (∀ w, (Instr.sliceBounds false n n (lo.map ρ) (hi.map ρ) none).run P w = .ok (l, hh, n) w) ∧
      VR μ v (.slice (some (if n = l then ⟨m.b, off, none⟩ else ⟨m.b, off + l * size, none⟩)) (hh - l) (n - l)) := by
  simp only [evRead, evReadB] at he
  split at he
  · rename_i i off lo1 hi1 h1 h2 h3
    have a1 := hr x (.inl rfl) _ h1
    simp only [VR] at a1
    obtain ⟨m, hm, e1⟩ := a1
    obtain ⟨l1, l2⟩ := optOpnd_ok (ρ := ρ) (fun y hy a ha => hr y (.inr (.inl hy)) a ha) h2
    obtain ⟨g1, g2⟩ := optOpnd_ok (ρ := ρ) (fun y hy a ha => hr y (.inr (.inr hy)) a ha) h3
    split at he
    · rename_i cs hcs
      obtain ⟨hsz, _⟩ := readCells_ok s hcs hm
      split at he
      · rename_i b hb
        split at he
        · rename_i a ha
          simp only [Option.some.injEq] at he
          subst he
          obtain ⟨hle, hbc, hw⟩ := bounds2 (P := P) (isS := false) l1 l2 g1 g2 (Nat.le_refl _) hb ha
          have hbn : b ≤ n := by omega
          refine ⟨m, m.base + off, a, b, e1, rfl, hw, ?_⟩
          simp only [VR]
          by_cases hna : n = a
          · exact ⟨m, m.base + off, n - a, hm, by simp [hna], .inr (by omega), by omega, by omega, fun _ => rfl, fun h => by omega⟩
          · refine ⟨m, m.base + off + a * size, n - a, hm, by simp [hna], .inl (by omega), by omega, by omega, fun _ => rfl, fun _ => ?_⟩
            have e2 : a * size + (n - a) * size = n * size := by rw [← Nat.add_mul]; congr 1; omega
            omega
        · cases he
      · cases he
    · cases he
  · cases he

theorem rd_sliceArr {t : TypeId} {x : Operand} {lo hi mx : Option Operand} (ho : o.op = .slice t x lo hi mx) (hns : ∀ e, P.underlying t ≠ some (.slice e)) (hc : compOp P o = some aop) (hk : kindOf aop = .read) (hr : OR μ tm ρ o) (s : St μ g h w) (he : evRead tm h aop = some v) : ReadOk P o ρ μ v w := by
  have hr' : ∀ y, (y = x ∨ lo = some y ∨ hi = some y) → ∀ a, opnd tm y = some a → VR μ a (ρ y) := fun y hy a ha => hr y (by
    rcases hy with rfl | h | h <;> simp [ho, Op.operands, *]) a ha
  simp only [compOp, compOpB, ho] at hc
  split at hc
  · split at hc
    · cases hc
    · cases hc; cases hk
  · rename_i e hu
    exact absurd hu (hns e)
  · rename_i n el hu
    simp only [bind, Option.bind_eq_some_iff, pure, Option.some.injEq] at hc
    obtain ⟨size, hs, rfl⟩ := hc
    obtain ⟨m, off, l, hh, e1, rfl, hw, hV⟩ := rd_sliceArr_at (P := P) hr' s he
    refine ⟨_, hV, ?_⟩
    simp only [execOp, ho, Instr.sliceAt, Sem.run_bind, r_und hu, Result.andThen_ok, e1, Instr.sureAddr, Sem.run_pure, Option.map_none, hw, r_size hs, add_addr]
  · rename_i ar hu
    split at hc
    · rename_i n el hu2
      simp only [bind, Option.bind_eq_some_iff, pure, Option.some.injEq] at hc
      obtain ⟨size, hs, rfl⟩ := hc
      obtain ⟨m, off, l, hh, e1, rfl, hw, hV⟩ := rd_sliceArr_at (P := P) hr' s he
      refine ⟨_, hV, ?_⟩
      simp only [execOp, ho, Instr.sliceAt, Instr.slice, Sem.run_bind, r_und hu, r_und hu2, Result.andThen_ok, e1, asAddr, Sem.run_pure, Option.map_none, hw, r_size hs, add_addr]
    · cases hc
  · cases hc

theorem rd_entry {x : Operand} (ho : o.op = .entry x) (hc : compOp P o = some aop) (hr : OR μ tm ρ o) (s : St μ g h w) (he : evRead tm h aop = some v) : ReadOk P o ρ μ v w := by
  simp only [compOp, compOpB, ho, Option.some.injEq] at hc
  subst hc
  simp only [evRead, evReadB] at he
  split at he
  · rename_i r hx
    have a1 := hr x (by simp [ho, Op.operands]) _ hx
    simp only [VR] at a1
    obtain ⟨m, hm, e1⟩ := a1
    split at he
    · rename_i mp since seen last hB
      obtain ⟨ob, hob, hBR⟩ := s.sim.blk r _ m (s.ext r _ hB) hm
      simp only [BR] at hBR
      obtain ⟨hb0, i', rfl, k, hk, rfl⟩ := hBR
      split at he
      · rename_i st es cl hst hM
        obtain ⟨es', hh, hE⟩ := map_ok s hM hk
        split at he
        · rename_i hcl
          split at he
          · rename_i e hf
            simp only [Option.some.injEq] at he
            subst he
            have fnd : ∀ {es : List (AV × AV × Nat)} {es' : List MapEntry} {e : AV × AV × Nat}, ER μ es es' → es.find? (fun e => e.2.2 == st) = some e → ∃ e', es'.find? (fun e => e.born == st) = some e' ∧ VR μ e.1 e'.key ∧ VR μ e.2.1 e'.val := by
              intro es
              induction es with
              | nil => intro es' e _ h; simp at h
              | cons q es ih =>
                intro es' e hE hf
                obtain ⟨qk, qv, qn⟩ := q
                simp only [ER] at hE
                obtain ⟨e1, s1, rfl, r1, r2, r3, r4⟩ := hE
                rw [List.find?_cons] at hf ⊢
                simp only [r3] at hf ⊢
                split at hf
                · cases hf
                  rename_i hq
                  exact ⟨e1, by simp [hq], r1, r2⟩
                · rename_i hq
                  obtain ⟨e', h1, h2⟩ := ih r4 hf
                  exact ⟨e', by simp [hq, h1], h2⟩
            obtain ⟨e', hf', hk1, hv1⟩ := fnd hE hf
            refine ⟨.tuple #[e'.key, e'.val], ⟨_, rfl, _, _, rfl, hk1, _, _, rfl, hv1, rfl⟩, ?_⟩
            have hg1 : (getObj m.b).run P w = .ok (.mapIter (some k.b) since ⟨seen⟩ last) w := by simp [getObj, Sem.run, hob]
            have hback : (⟨seen⟩ : Array Nat).back? = some st := by simpa [Array.back?, List.getLast?_eq_getElem?] using hst
            have hfa : (⟨es'⟩ : Array MapEntry).find? (fun e => e.born == st) = some e' := by simpa using hf'
            simp [execOp, ho, e1, hb0, Instr.entry, hg1, hback, run_getObj_map hh, hcl, hfa]
          · cases he
        · cases he
      · cases he
    · cases he
  · cases he

theorem ER.length : ∀ {es : List (AV × AV × Nat)} {es' : List MapEntry}, ER μ es es' → es'.length = es.length
  | [], es', h => by simp only [ER] at h; simp [h]
  | (a, b, n) :: es, es', h => by
    simp only [ER] at h
    obtain ⟨e, s, rfl, _, _, _, h⟩ := h
    simp [ER.length h]

theorem lenOf_run {c : Call} (ho : o.op = .call c) (hb : c.callee = .builtin .len) {x : Operand} (hargs : c.args.toList = [x]) (w : World) : (execOp ρ o).run P w = ((Builtin.len_ c.argTypes o.type #[ρ x]).run P w).andThen fun v w' => .ok (.value v) w' := by
  have hargs' : c.args.map ρ = #[ρ x] := by
    rw [← Array.toList_inj]; simp [hargs]
  simp [execOp, ho, resolve, hb, invoke, builtin, hargs']

theorem p_lenArr {c : Call} (ho : o.op = .call c) (hb : c.callee = .builtin .len) {x : Operand} (hargs : c.args.toList = [x]) (hc : compOp P o = some aop) (hk : kindOf aop = .pure) (he : evPure tm aop = some v) : PureOk P o ρ μ v := by
  simp only [compOp, compOpB, ho, hb, hargs, bind, Option.bind_eq_some_iff, pure] at hc
  obtain ⟨t, ht, hc⟩ := hc
  split at hc
  · rename_i n el hu
    simp only [Option.some.injEq] at hc
    subst hc
    simp only [evPure, evPureB, Option.some.injEq] at he
    subst he
    exact ⟨_, vr_int, fun w => by rw [lenOf_run ho hb hargs]; simp [Builtin.len_, ht, r_und hu, goInt]⟩
  · rename_i ar hu
    split at hc
    · rename_i n el hu2
      simp only [Option.some.injEq] at hc
      subst hc
      simp only [evPure, evPureB, Option.some.injEq] at he
      subst he
      exact ⟨_, vr_int, fun w => by rw [lenOf_run ho hb hargs]; simp [Builtin.len_, ht, r_und hu, r_und hu2, goInt]⟩
    · cases hc
  all_goals (cases hc <;> cases hk)

theorem rd_lenOf {c : Call} (ho : o.op = .call c) (hb : c.callee = .builtin .len) {x : Operand} (hargs : c.args.toList = [x]) (hc : compOp P o = some aop) (hk : kindOf aop = .read) (hr : OR μ tm ρ o) (s : St μ g h w) (he : evRead tm h aop = some v) : ReadOk P o ρ μ v w := by
  have hx : ∀ a, opnd tm x = some a → VR μ a (ρ x) := hr x (by
    have : x ∈ c.args := by rw [← Array.mem_toList_iff, hargs]; simp
    simp [ho, Op.operands, Call.operands, hb, this])
  simp only [compOp, compOpB, ho, hb, hargs, bind, Option.bind_eq_some_iff, pure] at hc
  obtain ⟨t, ht, hc⟩ := hc
  split at hc
  · cases hc; cases hk
  · split at hc
    · cases hc; cases hk
    · cases hc
  · rename_i hu
    simp only [Option.some.injEq] at hc
    subst hc
    simp only [evRead, evReadB] at he
    split at he <;> rename_i h1 h2 <;> (try (cases h1; done)) <;> (try (cases he; done))
    have a1 := hx _ h2
    simp only [VR] at a1
    simp only [Option.some.injEq] at he
    subst he
    have hz : ∀ l : List UInt8, (⟨l.toArray⟩ : ByteArray).size = l.length := fun l => by simp [ByteArray.size]
    refine ⟨_, vr_int, ?_⟩
    have hrun : ∀ q : ByteArray, (Builtin.len_ c.argTypes o.type #[.string q]).run P w = .ok (goInt q.size) w := fun q => by simp [Builtin.len_, ht, r_und hu]
    rw [lenOf_run ho hb hargs, a1, hrun, hz]
    rfl
  · rename_i el hu
    simp only [Option.some.injEq] at hc
    subst hc
    simp only [evRead, evReadB] at he
    split at he <;> rename_i h1 h2 <;> (try (cases h1; done)) <;> (try (cases he; done)) <;> have a1 := hx _ h2 <;> simp only [VR] at a1 <;> simp only [Option.some.injEq] at he <;> subst he
    · obtain ⟨m, off, c', hm, e, _⟩ := a1
      exact ⟨_, vr_int, by rw [lenOf_run ho hb hargs]; simp [Builtin.len_, ht, r_und hu, e, goInt]⟩
    · exact ⟨_, vr_int, by rw [lenOf_run ho hb hargs]; simp [Builtin.len_, ht, r_und hu, a1, goInt]⟩
  · rename_i kt el hu
    simp only [Option.some.injEq] at hc
    subst hc
    simp only [evRead, evReadB] at he
    split at he <;> rename_i h1 h2 <;> (try (cases h1; done)) <;> (try (cases he; done)) <;> have a1 := hx _ h2 <;> simp only [VR] at a1
    · simp only [Option.some.injEq] at he
      subst he
      exact ⟨_, vr_int, by rw [lenOf_run ho hb hargs]; simp [Builtin.len_, ht, r_und hu, a1, goInt]⟩
    · obtain ⟨m, hm, e⟩ := a1
      split at he
      · rename_i es cl hM
        simp only [Option.some.injEq] at he
        subst he
        obtain ⟨es', hh, hE⟩ := map_ok s hM hm
        exact ⟨_, vr_int, by rw [lenOf_run ho hb hargs]; simp [Builtin.len_, ht, r_und hu, e, run_getObj_map hh, goInt, hE.length]⟩
      · cases he
  · cases hc

/-! ### the library's entries without a body -/

theorem ext_run {c : Call} {f : FuncId} {fn : Func} {e : Array Value → Sem Value} (ho : o.op = .call c) (hb : c.callee = .value (.func f)) (hρ : ρ (.func f) = .func (.func f) #[] #[]) (hf : P.funcs[f]? = some fn) (hname : (fn.name == "runtime.NumGoroutine") = false)
    (hbd : fn.body.isNone = true) (hn : Extern.findNext fn = none) (he : Extern.find fn = some e) (w : World) :
    (execOp ρ o).run P w = ((e (c.args.map ρ)).run P w).andThen fun v w' => .ok (.value v) w' := by
  simp only [execOp, ho, resolve, hb, hρ, Deferred.ofValue, Sem.run_bind, Sem.run_pure, Result.andThen_ok, invoke, Array.empty_append, Array.append_empty]
  rw [run_callFunc_extern hf hname hbd hn he]

theorem find_noEscape {fn : Func} (h : fn.name = "internal/abi.NoEscape") (h0 : fn.origin = "") : Extern.findNext fn = none ∧ Extern.find fn = some Extern.AbiNoEscape.same := by
  obtain ⟨name, origin, targs, ps, rs, nf, nt, res, body, a1, a2, a3, a4, a5, a6⟩ := fn
  simp only at h h0
  subst h h0
  exact ⟨by kernel_rfl, by kernel_rfl⟩
theorem find_indexByte {fn : Func} (h : fn.name = "internal/bytealg.IndexByte" ∨ fn.name = "internal/bytealg.IndexByteString") (h0 : fn.origin = "") : Extern.findNext fn = none ∧ Extern.find fn = some Extern.BytealgIndexByte.indexByte := by
  obtain ⟨name, origin, targs, ps, rs, nf, nt, res, body, a1, a2, a3, a4, a5, a6⟩ := fn
  simp only at h h0
  subst h0
  rcases h with h | h <;> subst h <;> exact ⟨by kernel_rfl, by kernel_rfl⟩
theorem find_count {fn : Func} (h : fn.name = "internal/bytealg.CountString") (h0 : fn.origin = "") : Extern.findNext fn = none ∧ Extern.find fn = some Extern.BytealgCount.count := by
  obtain ⟨name, origin, targs, ps, rs, nf, nt, res, body, a1, a2, a3, a4, a5, a6⟩ := fn
  simp only at h h0
  subst h h0
  exact ⟨by kernel_rfl, by kernel_rfl⟩

theorem find_range (c : UInt8) : ∀ l : List UInt8, (List.range l.length).find? (fun i => l[i]? == some c) = l.findIdx? (· == c)
  | [] => rfl
  | x :: l => by
    rw [List.length_cons, List.range_succ_eq_map, List.find?_cons, List.findIdx?_cons]
    simp only [List.getElem?_cons_zero]
    by_cases hx : x = c
    · simp [hx]
    · have : (some x == some c) = false := by simp [hx]
      have h2 : (x == c) = false := by simp [hx]
      simp only [this, h2, Bool.false_eq_true, if_false]
      rw [← find_range c l, List.find?_map]
      congr 1

theorem find_bytes (l : List UInt8) (c : UInt8) : (List.range (⟨l.toArray⟩ : ByteArray).size).find? (fun i => (⟨l.toArray⟩ : ByteArray)[i]! == c) = l.findIdx? (· == c) := by
  rw [← find_range]
  have hz : (⟨l.toArray⟩ : ByteArray).size = l.length := by simp [ByteArray.size]
  rw [hz]
  have : ∀ is : List Nat, (∀ i ∈ is, i < l.length) → is.find? (fun i => (⟨l.toArray⟩ : ByteArray)[i]! == c) = is.find? (fun i => l[i]? == some c) := by
    intro is
    induction is with
    | nil => intro _; rfl
    | cons i is ih =>
      intro hi
      rw [List.find?_cons, List.find?_cons, ih fun j hj => hi j (by simp [hj])]
      have hlt := hi i (by simp)
      have e : (⟨l.toArray⟩ : ByteArray)[i]! = l[i] := by
        rw [getElem!_pos (⟨l.toArray⟩ : ByteArray) i (by rw [hz]; exact hlt)]
        rfl
      rw [e, List.getElem?_eq_getElem hlt]
      rfl
  exact this _ fun i hi => by simpa using hi

theorem count_bytes (c : UInt8) (l : List UInt8) : (⟨l.toArray⟩ : ByteArray).foldl (fun (n : Int) x => if x == c then n + 1 else n) ((0 : Nat) : Int) = (l.countP (· == c) : Nat) := by
  rw [Lib.foldl_data]
  have h1 : ∀ (l : List UInt8) (n : Int), l.foldl (fun (n : Int) x => if x == c then n + 1 else n) n = n + (l.countP (· == c) : Nat) := by
    intro l
    induction l with
    | nil => intro n; simp
    | cons x l ih =>
      intro n
      rw [List.foldl_cons, ih, List.countP_cons]
      split <;> simp_all <;> omega
  rw [h1]
  simp

theorem ext_comp {c : Call} (ho : o.op = .call c) {f : FuncId} (hb : c.callee = .value (.func f)) {name : String} {args : List Operand} (hc : compOp P o = some (.ext name args)) :
    ∃ fn, P.funcs[f]? = some fn ∧ fn.body.isNone = true ∧ fn.origin = "" ∧ fn.name = name ∧ args = c.args.toList := by
  simp only [compOp, compOpB, ho, hb] at hc
  split at hc
  · rename_i fn hfn
    split at hc
    · cases hc
    · rename_i hbd
      split at hc
      · rename_i h0
        cases hc
        exact ⟨fn, hfn, by simpa using hbd, h0, rfl, rfl⟩
      · cases hc
  · cases hc

theorem p_ext {c : Call} (ho : o.op = .call c) {f : FuncId} (hb : c.callee = .value (.func f)) (hρ : ρ (.func f) = .func (.func f) #[] #[]) {name : String} {args : List Operand} (hc : compOp P o = some (.ext name args)) (hk : kindOf (.ext name args) = .pure) (hr : OR μ tm ρ o)
    (he : evPure tm (.ext name args) = some v) : PureOk P o ρ μ v := by
  obtain ⟨fn, hfn, hbd, h0, hname, rfl⟩ := ext_comp ho hb hc
  have hn : name = "internal/abi.NoEscape" := by
    simp only [kindOf] at hk
    split at hk
    · assumption
    · cases hk
  rw [hn] at hname
  obtain ⟨h1, h2⟩ := find_noEscape hname h0
  simp only [evPure, evPureB] at he
  split at he
  · rename_i x hx
    simp only [Option.some.injEq] at he
    subst he
    have := opnds_VR (ρ := ρ) (fun x hx a ha => hr x (by
      have : x ∈ c.args := by simpa using hx
      simp [ho, Op.operands, Call.operands, hb, this]) a ha) hx
    simp only [VRs] at this
    obtain ⟨x', r, e, hv, rfl⟩ := this
    have e2 : c.args.map ρ = #[x'] := by rw [← Array.toList_inj]; simp [e]
    refine ⟨x', hv, fun w => ?_⟩
    rw [ext_run ho hb hρ hfn (by rw [hname]; rfl) hbd h1 h2, e2]
    rfl
  · cases he

theorem rd_ext {c : Call} (ho : o.op = .call c) {f : FuncId} (hb : c.callee = .value (.func f)) (hρ : ρ (.func f) = .func (.func f) #[] #[]) {name : String} {args : List Operand} (hc : compOp P o = some (.ext name args)) (hr : OR μ tm ρ o) (s : St μ g h w)
    (he : evRead tm h (.ext name args) = some v) : ReadOk P o ρ μ v w := by
  obtain ⟨fn, hfn, hbd, h0, hname, rfl⟩ := ext_comp ho hb hc
  simp only [evRead, evReadB] at he
  split at he
  · rename_i b k hx
    have := opnds_VR (ρ := ρ) (fun x hx a ha => hr x (by
      have : x ∈ c.args := by simpa using hx
      simp [ho, Op.operands, Call.operands, hb, this]) a ha) hx
    simp only [VRs] at this
    obtain ⟨b', r, e, hv, k', r', rfl, hk', rfl⟩ := this
    simp only [VR] at hk'
    subst hk'
    have e2 : c.args.map ρ = #[b', .int .u8 k] := by rw [← Array.toList_inj]; simp [e]
    split at he
    · rename_i bs hbs
      have ht := text_ok (P := P) s hv hbs
      split at he
      · rename_i hn
        obtain ⟨h1, h2⟩ := find_indexByte (by rw [hname]; exact hn) h0
        have hrun : (Extern.BytealgIndexByte.indexByte #[b', .int .u8 k]).run P w = .ok (match bs.findIdx? (· == UInt8.ofNat k.toNat) with | some i => goInt i | none => goInt (-1)) w := by
          change Sem.run P (do
            let b ← Extern.Bytes.bytesOf b'
            let c' ← Extern.Bytes.asByte (.int .u8 k)
            match (List.range b.size).find? fun i => b[i]! == c' with
            | some i => pure (goInt i)
            | none => pure (goInt (-1))) w = _
          simp only [Sem.run_bind, ht, Result.andThen_ok, Extern.Bytes.asByte, Sem.run_pure]
          rw [find_bytes]
          cases hq : bs.findIdx? (· == k.toNat.toUInt8) <;> simp [Nat.toUInt8] at hq ⊢ <;> simp [hq]
        have hv' : VR μ v (match bs.findIdx? (· == UInt8.ofNat k.toNat) with | some i => goInt i | none => goInt (-1)) := by
          split at he <;> simp only [Option.some.injEq] at he <;> subst he <;> rename_i hq <;> simp only [hq, goInt] <;> exact vr_int
        refine ⟨_, hv', ?_⟩
        rw [ext_run ho hb hρ hfn (by rw [hname]; rcases hn with rfl | rfl <;> rfl) hbd h1 h2, e2, hrun]
        rfl
      · split at he
        · rename_i hn
          obtain ⟨h1, h2⟩ := find_count (by rw [hname]; exact hn) h0
          simp only [Option.some.injEq] at he
          subst he
          refine ⟨_, vr_int, ?_⟩
          have hrun : (Extern.BytealgCount.count #[b', .int .u8 k]).run P w = .ok (goInt (bs.countP (· == UInt8.ofNat k.toNat) : Nat)) w := by
            change Sem.run P (do
              let b ← Extern.Bytes.bytesOf b'
              let c' ← Extern.Bytes.asByte (.int .u8 k)
              pure (goInt (b.foldl (fun n x => if x == c' then n + 1 else n) (0 : Nat)))) w = _
            simp only [Sem.run_bind, ht, Result.andThen_ok, Extern.Bytes.asByte, Sem.run_pure]
            rw [count_bytes]
          rw [ext_run ho hb hρ hfn (by rw [hname, hn]; rfl) hbd h1 h2, e2, hrun]
          rfl
        · cases he
    · cases he
  · cases he
end
end Go.AM
end
