/-
  AmEff6: a part of the abstract machine that stands for runs of the program in the model: no statement of the seat is in it.
-/
import Derived.Test.YtadcebncbpopdaaGreatDoorAmEff5
set_option linter.unusedSimpArgs false
noncomputable section
namespace Go.AM
section
variable {P : Program} {o : Oper} {aop : AOp} {tm : Tm} {ρ : Operand → Value} {μ : Mu} {v : AV} {g : G} {h h' : AH} {w w' : World} {callH : CallH}

theorem elemQ_ok {t e : TypeId} (h : elemQ P t = some e) : P.underlying t = some (.slice e) := by
  unfold elemQ at h
  split at h
  · rename_i e' hu; simp only [Option.some.injEq] at h; subst h; exact hu
  · cases h

theorem ef_append {c : Call} (ho : o.op = .call c) (hb : c.callee = .builtin .append) {x y : Operand} (hargs : c.args.toList = [x, y]) (hc : compOp P o = some aop) (hr : OR μ tm ρ o) (s : St μ g h w) (he : evEff callH tm h aop = some (v, h')) : EffOk P o ρ μ g h w v h' := by
  obtain ⟨hin, harr⟩ := call_args (ρ := ρ) ho hb hargs
  have hrun : ∀ w, (execOp ρ o).run P w = ((Builtin.append_ c.argTypes o.type #[ρ x, ρ y]).run P w).andThen fun v w' => .ok (.value v) w' := fun w => by
    simp [execOp, ho, resolve, hb, invoke, builtin, harr]
  have fin : ∀ {v' w' μ'}, (Builtin.append_ c.argTypes o.type #[ρ x, ρ y]).run P w = .ok v' w' → VR μ' v v' → Post μ g h w h' w' μ' → EffOk P o ρ μ g h w v h' := by
    intro v' w' μ' h1 h2 h3
    exact ⟨.value v', v', w', μ', by rw [hrun, h1]; rfl, .inl rfl, h2, h3⟩
  simp only [compOp, compOpB, ho, hb, hargs, bind, Option.bind_eq_some_iff] at hc
  obtain ⟨t, ht, e, hel, u, hut, size, hsz, z, hz, hc⟩ := hc
  have hte := elemQ_ok hel
  split at hc
  · cases hc
  rename_i hcond
  have hs0 : 0 < size := by
    rcases Nat.eq_zero_or_pos size with h | h
    · exact absurd (.inl h) hcond
    · exact h
  have hzl : z.length = size := Classical.byContradiction fun h => hcond (.inr h)
  obtain ⟨zv, hzr, hzw, _⟩ := zeroOf_ok (μ := μ) hz
  have hzs : zv.cells.size = size := by rw [← hzl, ← hzr.length]; simp
  split at hc
  · rename_i k hu
    simp only [Option.bind_eq_some_iff, pure, Option.some.injEq] at hc
    obtain ⟨bytes, hby, rfl⟩ := hc
    simp only [evEff, evEffB] at he
    split at he
    · rename_i sv k2 nv h1 h2
      have a1 := hr x (hin x (by simp)) _ h1
      have a2 := hr y (hin y (by simp)) _ h2
      simp only [VR] at a2
      split at he
      · rename_i hb2
        obtain ⟨hn0, hnb⟩ := hb2
        have hlen : ((List.replicate nv.toNat zv.cells.toList).flatten).length = nv.toNat * size := by simp [hzs]
        have hR := repl_VRs hzr nv.toNat
        have hA := appRunZ_of (w := w) (a' := ρ x) (x' := ρ y) (k2 := k2) (n := nv) (ty := o.type) ht hut hte hu hsz hby hzw hzs a2 hn0 hnb
        obtain ⟨v', w', μ', r1, r2, r3⟩ := appendA_ok s a1 he hR hlen hs0 hA
        exact fin r1 r2 r3
      · cases he
    · cases he
  · rename_i d hnint hu
    simp only [Option.bind_eq_some_iff, pure, Option.some.injEq] at hc
    obtain ⟨bytes, hby, rfl⟩ := hc
    simp only [evEff, evEffB] at he
    split at he
    · rename_i sv xv h1 h2
      have a1 := hr x (hin x (by simp)) _ h1
      have a2 := hr y (hin y (by simp)) _ h2
      split at he
      · rename_i n xs hxs
        obtain ⟨us, hul, hR, hlen, hfc⟩ := elems_ok s a2 hxs (P := P)
        have hfcd : ∀ d, (Builtin.firstCells size n (ρ y)).run P { w with drawn := d } = .ok ⟨us⟩ { w with drawn := d } := by
          intro d
          have := hfc d n (Nat.le_refl _)
          rwa [List.take_of_length_le (by omega)] at this
        have hA := appRun_of (w := w) (a' := ρ x) (ty := o.type) ht hut hte hu hnint hsz hby hzw hzs (hlen w) hfcd
        obtain ⟨v', w', μ', r1, r2, r3⟩ := appendA_ok s a1 he hR hul hs0 hA
        exact fin r1 r2 r3
      · cases he
    · cases he
  · cases hc

theorem ef_copy {c : Call} (ho : o.op = .call c) (hb : c.callee = .builtin .copy) {x y : Operand} (hargs : c.args.toList = [x, y]) (hc : compOp P o = some aop) (hr : OR μ tm ρ o) (s : St μ g h w) (he : evEff callH tm h aop = some (v, h')) : EffOk P o ρ μ g h w v h' := by
  obtain ⟨hin, harr⟩ := call_args (ρ := ρ) ho hb hargs
  have hrun : ∀ w, (execOp ρ o).run P w = ((Builtin.copy_ c.argTypes o.type #[ρ x, ρ y]).run P w).andThen fun v w' => .ok (.value v) w' := fun w => by
    simp [execOp, ho, resolve, hb, invoke, builtin, harr]
  simp only [compOp, compOpB, ho, hb, hargs, bind, Option.bind_eq_some_iff, pure, Option.some.injEq] at hc
  obtain ⟨t, ht, e, hel, size, hsz, rfl⟩ := hc
  have hte := elemQ_ok hel
  simp only [evEff, evEffB] at he
  split at he
  · rename_i dv sv h1 h2
    have a1 := hr x (hin x (by simp)) _ h1
    have a2 := hr y (hin y (by simp)) _ h2
    split at he
    · rename_i m xs hxs
      obtain ⟨us, hul, hR, hlen, hfc⟩ := elems_ok s a2 hxs (P := P)
      split at he
      · simp only [VR] at a1
        simp only [Option.some.injEq, Prod.mk.injEq] at he
        obtain ⟨rfl, rfl⟩ := he
        refine ⟨.value (goInt (Nat.min m 0)), _, w, μ, ?_, .inl rfl, ?_, Post.refl s⟩
        · have := hfc w.drawn (Nat.min m 0) (Nat.min_le_left _ _)
          have h0 : (Builtin.firstCells size (Nat.min m 0) (ρ y)).run P w = .ok ⟨us.take (Nat.min m 0 * size)⟩ w := this
          rw [hrun]
          simp only [Builtin.copy_, ht, List.getElem?_toArray, List.getElem?_cons_zero, List.getElem?_cons_succ, Sem.run_bind, r_und hte, Result.andThen_ok, a1, hlen, r_size hsz, h0, Sem.run_pure]
        · have : Nat.min m 0 = 0 := Nat.min_zero m
          rw [this]
          exact vr_int
      · rename_i i off n c0 ex es
        split at he
        · rename_i hes
          subst hes
          simp only [Option.map_eq_some_iff, Prod.mk.injEq] at he
          obtain ⟨h1', hw, rfl, rfl⟩ := he
          have a3 := a1
          simp only [VR] at a3
          obtain ⟨mi, off', c', hm, e1, hoff, hlc, hcc, _⟩ := a3
          obtain ⟨hst, hp⟩ := write_ok s hw hm (hR.take (Nat.min m n * es))
          have h0 : (Builtin.firstCells es (Nat.min m n) (ρ y)).run P w = .ok ⟨us.take (Nat.min m n * es)⟩ w := hfc w.drawn (Nat.min m n) (Nat.min_le_left _ _)
          by_cases hc0 : c' = 0
          · -- nothing is copied
            have hn0 : n = 0 := by omega
            subst hn0
            have hmin : Nat.min m 0 = 0 := Nat.min_zero m
            rw [hmin, Nat.zero_mul, List.take_zero] at hst hp
            rw [hmin, Nat.zero_mul, List.take_zero] at h0
            refine ⟨.value (goInt ((0 : Nat) : Int)), _, _, μ, ?_, .inl rfl, by rw [hmin]; exact vr_int, hp⟩
            rw [hrun]
            simp only [Builtin.copy_, ht, List.getElem?_toArray, List.getElem?_cons_zero, List.getElem?_cons_succ, Sem.run_bind, r_und hte, Result.andThen_ok, e1, hlen, r_size hsz, Sem.run_pure, hmin, h0]
            rfl
          · have ho' : off' = mi.base + off := by rcases hoff with h | h; exact h; exact absurd h hc0
            subst ho'
            refine ⟨.value (goInt (Nat.min m n)), _, _, μ, ?_, .inl rfl, vr_int, hp⟩
            rw [hrun]
            have hst' := hst P
            simp only [Builtin.copy_, ht, List.getElem?_toArray, List.getElem?_cons_zero, List.getElem?_cons_succ, Sem.run_bind, r_und hte, Result.andThen_ok, e1, hlen, r_size hsz, h0, Sem.run_pure]
            have hst2 : (storeCells ⟨mi.b, mi.base + off, none⟩ (List.take (Nat.min m n * es) us)).run P w = .ok () (w.setCells mi.b (mi.base + off) (us.take (Nat.min m n * es))) := hst'
            simp only [hst2, Result.andThen_ok]
        · cases he
      · cases he
    · cases he
  · cases he

theorem loadBytes_ok {b : Nat} : ∀ (ns : List Int) (off : Nat) (acc : ByteArray), (∀ k v, (ns.map (Value.int .u8))[k]? = some v → w.cell? ⟨b, off + k, none⟩ = some v) →
    (loadBytes ⟨b, off, none⟩ acc ns.length).run P w = .ok (ns.foldl (fun r n => r.push (UInt8.ofNat n.toNat)) acc) w
  | [], off, acc, _ => by simp [loadBytes]
  | n :: ns, off, acc, hk => by
    have h0 := hk 0 _ (by simp; rfl)
    simp only [Nat.add_zero] at h0
    simp only [List.length_cons, loadBytes, Sem.run_bind, run_load, h0, Result.andThen_ok, add_addr]
    have := loadBytes_ok ns (off + 1) (acc.push (UInt8.ofNat n.toNat)) fun k v hv => by
      have := hk (k + 1) v (by simpa using hv)
      rwa [show off + (k + 1) = off + 1 + k by omega] at this
    simpa using this


theorem uS_eq (ts : Array TypeId) (ty : TypeId) (p : Option Addr) (len_ : Value) : Builtin.unsafeString_ ts ty #[.pointer p, len_] = (do
    let n ← asInt len_
    let some pt := ts[0]? | stuck "unsafe.String: no argument types"
    if n < 0 then runtimePanic (.error "unsafe.String: len out of range")
    if n > IntKind.i64.max then unsupported (.unsafePointer "String: a length above the largest int")
    match p with
    | none =>
      if n = 0 then pure (.string .empty)
      else runtimePanic (.error "unsafe.String: ptr is nil and len is not zero")
    | some a =>
      if n = 0 then pure (.string .empty)
      else if ← variablesAt a (← elemOf pt) n.toNat then do
        let s ← loadBytes a .empty n.toNat
        freeze a n.toNat
        pure (.string s)
      else unsupported (.unsafePointer "String: not so many bytes at ptr")) := rfl

theorem ef_uString {c : Call} (ho : o.op = .call c) (hb : c.callee = .builtin .unsafeString) {x y : Operand} (hargs : c.args.toList = [x, y]) (hc : compOp P o = some aop) (hr : OR μ tm ρ o) (s : St μ g h w) (he : evEff callH tm h aop = some (v, h')) : EffOk P o ρ μ g h w v h' := by
  obtain ⟨hin, harr⟩ := call_args (ρ := ρ) ho hb hargs
  have hrun : ∀ w, (execOp ρ o).run P w = ((Builtin.unsafeString_ c.argTypes o.type #[ρ x, ρ y]).run P w).andThen fun v w' => .ok (.value v) w' := fun w => by
    simp [execOp, ho, resolve, hb, invoke, builtin, harr]
  simp only [compOp, compOpB, ho, hb, hargs, bind, Option.bind_eq_some_iff] at hc
  obtain ⟨pt, hpt, hc⟩ := hc
  split at hc
  · rename_i t hu
    split at hc
    · rename_i hs1
      simp only [pure, Option.some.injEq] at hc
      subst hc
      simp only [evEff, evEffB] at he
      split at he
      · rename_i pv k n h1 h2
        have a1 := hr x (hin x (by simp)) _ h1
        have a2 := hr y (hin y (by simp)) _ h2
        simp only [VR] at a2
        split at he
        · rename_i hn0
          subst hn0
          split at he <;> (try (cases he; done)) <;> simp only [Option.some.injEq, Prod.mk.injEq] at he <;> obtain ⟨rfl, rfl⟩ := he <;> simp only [VR] at a1
          · refine ⟨.value (.string .empty), _, w, μ, ?_, .inl rfl, rfl, Post.refl s⟩
            rw [hrun, a1, a2, uS_eq]
            simp [asInt, asIntOf, hpt, IntKind.max, IntKind.signed, IntKind.bits]
          · obtain ⟨m, hm, e1⟩ := a1
            refine ⟨.value (.string .empty), _, w, μ, ?_, .inl rfl, rfl, Post.refl s⟩
            rw [hrun, e1, a2, uS_eq]
            simp [asInt, asIntOf, hpt, IntKind.max, IntKind.signed, IntKind.bits]
        · rename_i hn0
          split at he
          · rename_i i off
            simp only [VR] at a1
            obtain ⟨m, hm, e1⟩ := a1
            split at he
            · rename_i hnn
              obtain ⟨hn1, hn2⟩ := hnn
              split at he
              · rename_i ex fz e cs hB
                split at he
                · rename_i het
                  subst het
                  split at he
                  · rename_i cc hcut
                    split at he
                    · rename_i bs hbs
                      simp only [Option.some.injEq, Prod.mk.injEq] at he
                      obtain ⟨rfl, rfl⟩ := he
                      have hread : readCells h i off n.toNat = some cc := by simp [readCells, hB, AB.cs, hcut]
                      obtain ⟨hbd, vs, hvl, hvR, hvc, _⟩ := readCells_ok s hread hm
                      obtain ⟨ns, rfl, rfl⟩ := bytesOfA_ok hbs hvR
                      obtain ⟨ob, hob, hBR⟩ := s.sim.blk i _ m (s.ext i _ hB) hm
                      simp only [BR] at hBR
                      obtain ⟨cv, fr, rfl, q1, q2, q3, q4, q5⟩ := hBR
                      have hsh : w.shape? m.b = some (e, cv.size) := by simp [World.shape?, hob]
                      have hcells : P.cellsOf e = 1 := by
                        unfold sizeQ at hs1
                        simp only [Program.cellsOf, hs1, Option.getD_some]
                      have hva : liesAt P P.depth e (cv.size / P.cellsOf e) (m.base + off) e n.toNat = true := by
                        have hd : ∃ d, P.depth = d + 1 := ⟨2 * (P.types.size + Made.depth) + 1, rfl⟩
                        obtain ⟨d, hd⟩ := hd
                        rw [hd]
                        simp only [liesAt, hd, rowAt, hcells]
                        have : m.base + off + n.toNat ≤ cv.size := by omega
                        simp [sameLayout, this, Nat.mod_one]
                      have hlb := loadBytes_ok (P := P) ns (m.base + off) .empty hvc
                      simp only [List.length_map] at hvl
                      rw [hvl, foldl_push] at hlb
                      let fr' : Nat × Nat := if fr.1 == fr.2 then (m.base + off, m.base + off + n.toNat) else (min fr.1 (m.base + off), max fr.2 (m.base + off + n.toNat))
                      have hnz : n.toNat ≠ 0 := by omega
                      have hheap : (w.freeze ⟨m.b, m.base + off, none⟩ n.toNat).heap[m.b]? = some (.cells cv e fr') := by
                        simp [World.freeze, hnz, Array.getElem?_modify, hob, fr']
                      have hoth : ∀ b, b ≠ m.b → (w.freeze ⟨m.b, m.base + off, none⟩ n.toNat).heap[b]? = w.heap[b]? := by
                        intro b hb
                        simp only [World.freeze]
                        rw [if_neg hnz]
                        simp only [Array.getElem?_modify]
                        rw [if_neg (fun e => hb e.symm)]
                      have hsz : (w.freeze ⟨m.b, m.base + off, none⟩ n.toNat).heap.size = w.heap.size := by
                        simp [World.freeze, hnz]
                      refine ⟨.value (.string ⟨(ns.map fun n => UInt8.ofNat n.toNat).toArray⟩), _, w.freeze ⟨m.b, m.base + off, none⟩ n.toNat, μ, ?_, .inl rfl, vr_str, ?_⟩
                      · rw [hrun, e1, a2, uS_eq]
                        have hmax : ¬ (n > IntKind.i64.max) := by simp [IntKind.max, IntKind.signed, IntKind.bits]; omega
                        have hneg : ¬ (n < 0) := by omega
                        have hlb' : (loadBytes ⟨m.b, m.base + off, none⟩ .empty n.toNat).run P w = .ok ⟨(ns.map fun n => UInt8.ofNat n.toNat).toArray⟩ w := by
                          rw [hlb]; rfl
                        simp only [asInt, asIntOf, Sem.run_bind, Sem.run_pure, Result.andThen_ok, hpt, if_neg hneg, if_neg hmax, if_neg hn0, elemOf, r_und hu, variablesAt, run_program, run_shape, hsh, hva, if_true, hlb', run_freeze]
                      · refine post_set s hB hm rfl ?_ hheap hoth hsz (by simp [World.freeze, hnz]) (by simp [World.freeze, hnz]) (by simp [World.freeze, hnz])
                        simp only [BR]
                        exact ⟨cv, fr', rfl, q1, q2, q3, (by simp), q5⟩
                    · cases he
                  · cases he
                · cases he
              · cases he
            · cases he
          · cases he
      · cases he
    · cases hc
  · cases hc
end
end Go.AM
end
