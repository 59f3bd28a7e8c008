/-
  AmAlloc: a part of the abstract machine that stands for runs of the program in the model: no statement of the seat is in it.
-/
import Derived.Test.YtadcebncbpopdaaGreatDoorAmRead3
set_option linter.unusedSimpArgs false
noncomputable section
namespace Go.AM
section
variable {P : Program} {o : Oper} {aop : AOp} {tm : Tm} {ρ : Operand → Value} {μ : Mu} {v : AV} {g : G} {h : AH} {w : World}

/-- The operation makes one block. -/
def AllocOk (P : Program) (o : Oper) (ρ : Operand → Value) (μ : Mu) (w : World) (B : AB) (f : Nat → AV) : Prop :=
  ∃ obj v' sz w', (execOp ρ o).run P w = .ok (.value v') w' ∧ w'.heap = w.heap.push obj ∧ w'.os = w.os ∧ w'.tape = w.tape ∧ w'.output = w.output ∧
    ∀ μ', μ.le μ' → BR μ' ⟨w.heap.size, 0, sz⟩ B obj ∧ ∀ i, μ' i = some ⟨w.heap.size, 0, sz⟩ → VR μ' (f i) v'

theorem br_cells {μ : Mu} {e : TypeId} {c : List AV} {vs : List Value} {b : Nat} (hV : VRs μ c vs) : BR μ ⟨b, 0, vs.length⟩ (.cells true false e c) (.cells ⟨vs⟩ e) := by
  simp only [BR]
  refine ⟨⟨vs⟩, (0, 0), rfl, rfl, by simp [hV.length], fun _ => by simp [hV.length], fun _ => .inl rfl, fun k a e => ?_⟩
  obtain ⟨v, h1, h2⟩ := hV.get k a e
  exact ⟨v, by simpa using h1, h2⟩

theorem al_alloc {e : TypeId} (ho : o.op = .alloc e) (hc : compOp P o = some aop) {B : AB} {f : Nat → AV} (he : evAlloc tm aop = some (B, f)) : AllocOk P o ρ μ w B f := by
  simp only [compOp, compOpB, ho, Option.map_eq_some_iff] at hc
  obtain ⟨z, hz, rfl⟩ := hc
  simp only [evAlloc, evAllocB, Option.some.injEq, Prod.mk.injEq] at he
  obtain ⟨rfl, rfl⟩ := he
  obtain ⟨zv, hzr, hzw, _⟩ := zeroOf_ok (μ := μ) hz
  refine ⟨.cells zv.cells e, .pointer (some ⟨w.heap.size, 0, none⟩), zv.cells.toList.length, { w with heap := w.heap.push (.cells zv.cells e) }, ?_, rfl, rfl, rfl, rfl, fun μ' hle => ⟨br_cells (hzr.mono hle), fun i hi => ⟨_, hi, rfl⟩⟩⟩
  simp [execOp, ho, Instr.alloc, hzw, newVar, newRow]

theorem al_box {e : TypeId} {x : Operand} (ho : o.op = .box e x) (hc : compOp P o = some aop) (hr : OR μ tm ρ o) {B : AB} {f : Nat → AV} (he : evAlloc tm aop = some (B, f)) : AllocOk P o ρ μ w B f := by
  simp only [compOp, compOpB, ho, Option.some.injEq] at hc
  subst hc
  simp only [evAlloc, evAllocB] at he
  split at he
  · rename_i a hx
    simp only [Option.some.injEq, Prod.mk.injEq] at he
    obtain ⟨rfl, rfl⟩ := he
    have hv := (hr x (by simp [ho, Op.operands]) _ hx).cells
    refine ⟨.cells (ρ x).cells e, .pointer (some ⟨w.heap.size, 0, none⟩), (ρ x).cells.toList.length, { w with heap := w.heap.push (.cells (ρ x).cells e) }, ?_, rfl, rfl, rfl, rfl, fun μ' hle => ⟨br_cells (hv.mono hle), fun i hi => ⟨_, hi, rfl⟩⟩⟩
    simp [execOp, ho, Instr.box, newVar, newRow]
  · cases he

theorem repl_VRs {z : List AV} {zs : List Value} (h : VRs μ z zs) : ∀ n, VRs μ (repl n z) (List.replicate n zs).flatten
  | 0 => rfl
  | n + 1 => by
    rw [List.replicate_succ, List.flatten_cons]
    exact h.append (repl_VRs h n)

theorem range_mod (zs : Array Value) (n : Nat) : (Array.range (n * zs.size)).map (fun i => zs[i % zs.size]!) = ⟨(List.replicate n zs.toList).flatten⟩ := by
  rw [← Array.toList_inj]
  simp only [Array.toList_map, Array.toList_range]
  induction n with
  | zero => simp
  | succ n ih =>
    rw [Nat.succ_mul, List.range_add, List.map_append, ih, List.replicate_succ', List.flatten_append]
    congr 1
    simp only [List.map_map, List.flatten_cons, List.flatten_nil, List.append_nil]
    apply List.ext_getElem
    · simp
    · intro i h1 h2
      simp at h1 h2
      simp [Nat.mod_eq_of_lt h1, h1]

theorem al_buildSlice {t : TypeId} {len : Nat} {ps : Array (Nat × Operand)} (ho : o.op = .buildSlice t len ps) (hc : compOp P o = some aop) (hr : OR μ tm ρ o) {B : AB} {f : Nat → AV} (he : evAlloc tm aop = some (B, f)) : AllocOk P o ρ μ w B f := by
  have hops : ∀ p ∈ ps.toList, ∀ a, opnd tm p.2 = some a → VR μ a (ρ p.2) := fun p hp a ha => hr p.2 (by simp [ho, Op.operands]; exact ⟨p.1, by simpa using hp⟩) a ha
  simp only [compOp, compOpB, ho, bind, Option.bind_eq_some_iff, pure] at hc
  obtain ⟨e, hel, n, hn, z, hz, parts, hp, hc⟩ := hc
  split at hc
  · rename_i hcond
    obtain ⟨hzl, hn0, hbig⟩ := hcond
    simp only [Option.some.injEq] at hc
    subst hc
    obtain ⟨zv, hzr, hzw, _⟩ := zeroOf_ok (μ := μ) hz
    simp only [evAlloc, evAllocB] at he
    split at he
    · rename_i vals hv
      split at he
      · rename_i cs hcs
        simp only [Option.some.injEq, Prod.mk.injEq] at he
        obtain ⟨rfl, rfl⟩ := he
        obtain ⟨vs', hf, hR⟩ := fill_ok hp hv hcs hops (repl_VRs hzr len)
        have hzs : zv.cells.size = n := by rw [← hzl, ← hzr.length]; simp
        have hlen : vs'.length = len * n := by
          have hh := hR.length
          have hl2 : ∀ (cells : List AV) (l : List (Nat × Nat × AV)) (out : List AV), fillA cells l = some out → out.length = cells.length := by
            intro cells l
            induction l generalizing cells with
            | nil => intro out h; simp only [fillA, Option.some.injEq] at h; rw [h]
            | cons q l ih =>
              intro out h
              obtain ⟨o1, n1, v1⟩ := q
              unfold fillA at h
              split at h
              · split at h
                · rename_i c' hc'
                  rw [ih _ _ h]
                  unfold paste at hc'
                  split at hc'
                  · simp only [Option.some.injEq] at hc'
                    subst hc'
                    simp; omega
                  · cases hc'
                · cases h
              · cases h
          have hr2 : ∀ n, (repl n z).length = n * z.length := by
            intro n
            induction n with
            | zero => simp [repl]
            | succ n ih => simp [repl, ih, Nat.succ_mul, Nat.add_comm]
          rw [hh, hl2 _ _ _ hcs, hr2, hzl]
        have hu : P.underlying t = some (.slice e) := by
          unfold elemQ at hel
          split at hel
          · rename_i e' hu; simp only [Option.some.injEq] at hel; subst hel; exact hu
          · cases hel
        refine ⟨.cells ⟨vs'⟩ e, .slice (some ⟨w.heap.size, 0, none⟩) len len, vs'.length, { w with heap := w.heap.push (.cells ⟨vs'⟩ e) }, ?_, rfl, rfl, rfl, rfl, fun μ' hle => ⟨br_cells (hR.mono hle), fun i hi => ?_⟩⟩
        · have hnot : ¬ (len * n > 2 ^ 24) := by omega
          have hf' : Instr.fill (fun i => some (i * n, n)) ⟨(List.replicate len zv.cells.toList).flatten⟩ (ps.map fun (i, x) => (i, ρ x)).toList = some ⟨vs'⟩ := by
            rw [Array.toList_map]; exact hf
          by_cases h0 : len * n = 0
          · have hl0 : len = 0 := by rcases Nat.mul_eq_zero.1 h0 with h | h; exact h; omega
            have e3 : (Array.range (len * n)).map (fun x => (#[] : Array Value)[x % (#[] : Array Value).size]!) = ⟨(List.replicate len zv.cells.toList).flatten⟩ := by
              subst hl0; simp
            simp only [execOp, ho, Instr.buildSlice, Sem.run_bind, r_und hu, r_size hn, Result.andThen_ok, if_neg hnot, if_pos h0, Sem.run_pure, e3]
            rw [hf']
            simp [newRow]
          · have e3 : (Array.range (len * n)).map (fun x => zv.cells[x % zv.cells.size]!) = ⟨(List.replicate len zv.cells.toList).flatten⟩ := by
              rw [← hzs]; exact range_mod _ _
            simp only [execOp, ho, Instr.buildSlice, Sem.run_bind, r_und hu, r_size hn, Result.andThen_ok, if_neg hnot, if_neg h0, hzw, Sem.run_pure, e3]
            rw [hf']
            simp [newRow]
        · simp only [VR]
          refine ⟨_, 0, len, hi, rfl, .inl rfl, Nat.le_refl _, Nat.le_refl _, fun _ => rfl, fun _ => ?_⟩
          simp [hlen, hzl]
      · cases he
    · cases he
  · cases hc

theorem al_mkMap {t : TypeId} {r : Option Operand} (ho : o.op = .makeMap t r) (hc : compOp P o = some aop) {B : AB} {f : Nat → AV} (he : evAlloc tm aop = some (B, f)) : AllocOk P o ρ μ w B f := by
  simp only [compOp, compOpB, ho] at hc
  split at hc
  · simp only [Option.some.injEq] at hc
    subst hc
    simp only [evAlloc, evAllocB, Option.some.injEq, Prod.mk.injEq] at he
    obtain ⟨rfl, rfl⟩ := he
    refine ⟨.map #[] 0, .map (some w.heap.size), 0, { w with heap := w.heap.push (.map #[] 0) }, ?_, rfl, rfl, rfl, rfl, fun μ' hle => ⟨⟨[], rfl, rfl⟩, fun i hi => ⟨_, hi, rfl⟩⟩⟩
    simp [execOp, ho, Instr.makeMap]
  · cases hc

theorem al_rangeStr {t : TypeId} {x : Operand} (ho : o.op = .range t x) (hc : compOp P o = some aop) (hr : OR μ tm ρ o) {B : AB} {f : Nat → AV} (he : evAlloc tm aop = some (B, f)) : AllocOk P o ρ μ w B f := by
  simp only [compOp, compOpB, ho] at hc
  split at hc <;> (try (cases hc; done)) <;> simp only [Option.some.injEq] at hc <;> subst hc <;> simp only [evAlloc, evAllocB] at he
  · rename_i hu
    split at he
    · rename_i sq heq hx
      simp only [Option.some.injEq, Prod.mk.injEq] at he
      obtain ⟨rfl, rfl⟩ := he
      have a1 := hr x (by simp [ho, Op.operands]) _ hx
      simp only [VR] at a1
      refine ⟨.stringIter ⟨sq.toArray⟩ 0, .pointer (some ⟨w.heap.size, 0, none⟩), 0, { w with heap := w.heap.push (.stringIter ⟨sq.toArray⟩ 0) }, ?_, rfl, rfl, rfl, rfl, fun μ' hle => ⟨⟨rfl, rfl⟩, fun i hi => ⟨_, hi, rfl⟩⟩⟩
      simp [execOp, ho, a1, Instr.range, r_und hu]
    · cases he
  · cases he

theorem al_str2bytes {sT d : TypeId} {x : Operand} (ho : o.op = .convert sT d x) (hc : compOp P o = some aop) (hr : OR μ tm ρ o) {B : AB} {f : Nat → AV} (he : evAlloc tm aop = some (B, f)) : AllocOk P o ρ μ w B f := by
  simp only [compOp, compOpB, ho, bind, Option.bind_eq_some_iff, pure, Option.some.injEq] at hc
  obtain ⟨c, hcv, rfl⟩ := hc
  unfold compConv at hcv
  simp only [evAlloc, evAllocB] at he
  split at he <;> (try (cases he; done))
  rename_i el sq hx
  simp only [Option.some.injEq, Prod.mk.injEq] at he
  obtain ⟨rfl, rfl⟩ := he
  have a1 := hr x (by simp [ho, Op.operands]) _ hx
  simp only [VR] at a1
  split at hcv <;> (try split at hcv) <;> (try (cases hcv; done))
  rename_i h1 h2 h3
  cases hcv
  have hcells : VRs μ (cellsOfBytes sq) (sq.map fun b => Value.int .u8 b.toNat) := by
    refine VRs.of_get (by simp [cellsOfBytes]) fun k a e => ?_
    simp only [cellsOfBytes, List.getElem?_map, Option.map_eq_some_iff] at e
    obtain ⟨b, hb, rfl⟩ := e
    exact ⟨.int .u8 b.toNat, by simp [hb], vr_int⟩
  have hsz : (⟨sq.toArray⟩ : ByteArray).size = sq.length := by simp [ByteArray.size]
  let q : Question := .appendCap sq.length 0 el
  let cap := q.cut (w.tape w.drawn q)
  have hcap : sq.length ≤ cap := by simp [cap, q, Question.cut]
  let cs : Array Value := ⟨(sq.map fun b => Value.int .u8 b.toNat) ++ List.replicate (cap - sq.length) (.int .u8 0)⟩
  have hcs : cs.size = cap := by simp [cs]; omega
  have harr : (⟨sq.toArray⟩ : ByteArray).data.map (fun b => Value.int .u8 b.toNat) ++ Array.replicate (cap - sq.length) (Value.int .u8 0) = cs := by
    rw [← Array.toList_inj]; simp [cs]
  have hfz : ({ w with drawn := w.drawn + 1, heap := w.heap.push (.cells cs el) } : World).freeze ⟨w.heap.size, cap, none⟩ 1 = { w with drawn := w.drawn + 1, heap := w.heap.push (.cells cs el (cap, cap + 1)) } := by
    simp only [World.freeze]
    rw [if_neg (by decide)]
    congr 1
    apply Array.ext_getElem?
    intro i
    rw [Array.getElem?_modify, Array.getElem?_push, Array.getElem?_push]
    by_cases hi : i = w.heap.size
    · subst hi; simp
    · have hi' : ¬ w.heap.size = i := fun h => hi h.symm
      simp [hi, hi']
  have hrun : (Conv.stringToBytes el ⟨sq.toArray⟩).run P w = .ok (.slice (some ⟨w.heap.size, 0, none⟩) sq.length cap) { w with drawn := w.drawn + 1, heap := w.heap.push (.cells cs el (cap, cap + 1)) } := by
    have hsh : ({ w with drawn := w.drawn + 1, heap := w.heap.push (.cells cs el) } : World).shape? w.heap.size = some (el, cap) := by simp [World.shape?, hcs]
    simp only [Conv.stringToBytes, Sem.run_bind, run_choose, hsz]
    rw [if_neg (by simp [Question.forced])]
    simp only [Result.andThen_ok]
    change Result.andThen ((newRow el ((⟨sq.toArray⟩ : ByteArray).data.map (fun b => Value.int .u8 b.toNat) ++ Array.replicate (cap - sq.length) (Value.int .u8 0))).run P { w with drawn := w.drawn + 1 }) _ = _
    rw [harr]
    simp only [newRow, Sem.run_bind, run_newObj, Result.andThen_ok, Sem.run_pure, markStringish, run_shape, hsh, run_freeze, hfz]
    rfl
  refine ⟨.cells cs el (cap, cap + 1), .slice (some ⟨w.heap.size, 0, none⟩) sq.length cap, cap, { w with drawn := w.drawn + 1, heap := w.heap.push (.cells cs el (cap, cap + 1)) }, ?_, rfl, rfl, rfl, rfl, fun μ' hle => ⟨?_, fun i hi => ?_⟩⟩
  · simp [execOp, ho, a1, convert, r_und h1, r_und h2, r_und (isU8_ok h3), hrun]
  · simp only [BR]
    refine ⟨cs, _, rfl, hcs, by simp [cellsOfBytes]; omega, (by simp), fun _ => .inr (Nat.le_refl _), fun k a e => ?_⟩
    obtain ⟨v, hv1, hv2⟩ := (hcells.mono hle).get k a e
    refine ⟨v, ?_, hv2⟩
    have : k < (sq.map fun b => Value.int .u8 b.toNat).length := by
      rw [List.getElem?_eq_some_iff] at hv1; exact hv1.1
    simp only [Nat.zero_add, cs]
    simp only [List.getElem?_toArray]
    rw [List.getElem?_append_left this]
    exact hv1
  · simp only [VR]
    exact ⟨_, 0, cap, hi, rfl, .inl rfl, Nat.le_refl _, hcap, (by simp), fun _ => by simp⟩

theorem al_mkSlice {t : TypeId} {l c : Operand} (ho : o.op = .makeSlice t l c) (hc : compOp P o = some aop) (hr : OR μ tm ρ o) {B : AB} {f : Nat → AV} (he : evAlloc tm aop = some (B, f)) : AllocOk P o ρ μ w B f := by
  simp only [compOp, compOpB, ho, bind, Option.bind_eq_some_iff, pure] at hc
  obtain ⟨e, hel, z, hz, n, hn, hc⟩ := hc
  split at hc
  · rename_i hcond
    obtain ⟨hzl, hn0⟩ := hcond
    simp only [Option.bind_eq_some_iff, Option.some.injEq] at hc
    obtain ⟨bytes, hby, rfl⟩ := hc
    obtain ⟨zv, hzr, hzw, _⟩ := zeroOf_ok (μ := μ) hz
    have hzs : zv.cells.size = n := by rw [← hzl, ← hzr.length]; simp
    have hu : P.underlying t = some (.slice e) := by
      unfold elemQ at hel
      split at hel
      · rename_i e' hu; simp only [Option.some.injEq] at hel; subst hel; exact hu
      · cases hel
    simp only [evAlloc, evAllocB] at he
    split at he
    · rename_i k1 li k2 ci h1 h2
      split at he
      · rename_i hb
        obtain ⟨hl0, hlc, hbig, hcb⟩ := hb
        simp only [Option.some.injEq, Prod.mk.injEq] at he
        obtain ⟨rfl, rfl⟩ := he
        have a1 := hr l (by simp [ho, Op.operands]) _ h1
        have a2 := hr c (by simp [ho, Op.operands]) _ h2
        simp only [VR] at a1 a2
        have hR := repl_VRs hzr ci.toNat
        have hlen : ((List.replicate ci.toNat zv.cells.toList).flatten).length = ci.toNat * n := by simp [hzs]
        obtain ⟨ti, hti, htb⟩ := r_bytes hby w
        have wl : IntKind.i64.wrap li = li := by
          unfold IntKind.wrap; simp [IntKind.bits, IntKind.signed]; omega
        have wc : IntKind.i64.wrap ci = ci := by
          unfold IntKind.wrap; simp [IntKind.bits, IntKind.signed]; omega
        refine ⟨.cells ⟨(List.replicate ci.toNat zv.cells.toList).flatten⟩ e, .slice (some ⟨w.heap.size, 0, none⟩) li.toNat ci.toNat, ((List.replicate ci.toNat zv.cells.toList).flatten).length, { w with heap := w.heap.push (.cells ⟨(List.replicate ci.toNat zv.cells.toList).flatten⟩ e) }, ?_, rfl, rfl, rfl, rfl, fun μ' hle => ⟨br_cells (hR.mono hle), fun i hi => ?_⟩⟩
        · have t1 : (decide (ci < 0) || decide ((bytes : Int) * ci > 2 ^ 48)) = false := by
            have : (bytes : Int) * ci ≤ 2 ^ 40 := by rw [Int.mul_comm]; exact hbig
            simp; omega
          have t2 : (decide (ci < 0) || decide ((bytes : Int) * ci > 2 ^ 48) || decide (li < 0) || decide (li > ci)) = false := by
            rw [t1]; simp; omega
          have hrng : ∀ q : Array Value, (if ci.toNat * n = 0 then q = #[] else q = zv.cells) → (Array.range (ci.toNat * n)).map (fun x => q[x % q.size]!) = ⟨(List.replicate ci.toNat zv.cells.toList).flatten⟩ := by
            intro q hq
            by_cases h0 : ci.toNat * n = 0
            · have hl0 : ci.toNat = 0 := by rcases Nat.mul_eq_zero.1 h0 with h | h; exact h; omega
              rw [hl0]; simp
            · rw [if_neg h0] at hq
              subst hq
              rw [← hzs]; exact range_mod _ _
          have hti' : ∀ w', (typeInfo e).run P w' = .ok ti w' := by
            intro w'
            unfold bytesQ at hby
            cases hi : P.info? e with
            | none => simp [hi] at hby
            | some i => simp [typeInfo, hi] at hti ⊢; exact hti
          simp only [execOp, ho, Instr.makeSlice, a1, a2, Sem.run_bind, r_und hu, Result.andThen_ok, asInt, asIntOf, Sem.run_pure, hti', htb, wl, wc]
          rw [t2]
          simp only [Bool.false_eq_true, if_false, Sem.run_bind, run_askRoom, Result.andThen_ok, r_size hn]
          by_cases h0 : ci.toNat * n = 0
          · have := hrng #[] (by rw [if_pos h0])
            simp only [if_pos h0, Sem.run_bind, Sem.run_pure, Result.andThen_ok, this]
            simp [newRow]
          · have := hrng zv.cells (by rw [if_neg h0])
            simp only [if_neg h0, Sem.run_bind, Sem.run_pure, Result.andThen_ok, hzw, this]
            simp [newRow]
        · simp only [VR]
          refine ⟨_, 0, ci.toNat, hi, rfl, .inl rfl, by omega, Nat.le_refl _, fun _ => rfl, fun _ => ?_⟩
          simp [hlen, hzl]
      · cases he
    · cases he
  · cases hc
end
end Go.AM
end
