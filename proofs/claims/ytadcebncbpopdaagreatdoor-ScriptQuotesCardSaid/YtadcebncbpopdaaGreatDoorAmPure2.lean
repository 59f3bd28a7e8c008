/-
  AmPure2: a part of the abstract machine that stands for runs of the program in the model: no statement of the seat is in it.
-/
import Derived.Test.YtadcebncbpopdaaGreatDoorAmPure
import Derived.Laws.Slices
import Derived.Laws.Strings
import Derived.Laws.StructEq
noncomputable section
namespace Go.AM
section
variable {P : Program} {o : Oper} {aop : AOp} {tm : Tm} {ρ : Operand → Value} {μ : Mu} {v : AV}

theorem fold_set (off : Nat) : ∀ (us : List Value) (k : Nat) (arr : Array Value), off + k + us.length ≤ arr.size →
    ((us.zipIdx k).foldl (fun cs (p : Value × Nat) => cs.setIfInBounds (off + p.2) p.1) arr) = ⟨arr.toList.take (off + k) ++ us ++ arr.toList.drop (off + k + us.length)⟩
  | [], k, arr, h => by simp
  | u :: us, k, arr, h => by
    simp only [List.zipIdx_cons, List.foldl_cons]
    rw [fold_set off us (k + 1) _ (by simp at h ⊢; omega)]
    congr 1
    rw [Array.toList_setIfInBounds, List.set_eq_take_append_cons_drop]
    simp only [List.length_cons] at h
    rw [if_pos (by simpa using (by omega : off + k < arr.size))]
    have e1 : off + (k + 1) = off + k + 1 := by omega
    rw [e1]
    have l1 : (arr.toList.take (off + k)).length = off + k := by simp; omega
    rw [List.take_append, List.drop_append, l1]
    simp only [Nat.add_sub_cancel_left, List.length_cons]
    have e2 : off + k + 1 + us.length - (off + k) = us.length + 1 := by omega
    have e3 : off + k + (us.length + 1) = off + k + 1 + us.length := by omega
    rw [e2, e3]
    simp [List.take_take, List.drop_drop]
    simp [Nat.add_comm, Nat.add_left_comm]
    omega

theorem paste_VRs {c c' us : List AV} {vs ws : List Value} {off : Nat} (h : VRs μ c vs) (k : VRs μ us ws) (e : paste c off us = some c') :
    off + ws.length ≤ vs.length ∧ VRs μ c' (vs.take off ++ ws ++ vs.drop (off + ws.length)) := by
  unfold paste at e
  split at e
  · rename_i hl
    simp only [Option.some.injEq] at e
    subst e
    refine ⟨by rw [h.length, k.length]; exact hl, ?_⟩
    rw [k.length]
    exact ((h.take off).append k).append (h.drop _)
  · cases e

theorem fill_ok {places : Nat → Option (Nat × Nat)} : ∀ {ps : List (Nat × Operand)} {parts : List (Nat × Nat × Operand)} {vals : List (Nat × Nat × AV)} {c out : List AV} {vs : List Value},
    compParts places ps = some parts → partVals tm parts = some vals → fillA c vals = some out → (∀ p ∈ ps, ∀ a, opnd tm p.2 = some a → VR μ a (ρ p.2)) → VRs μ c vs →
    ∃ vs', Instr.fill places ⟨vs⟩ (ps.map fun p => (p.1, ρ p.2)) = some ⟨vs'⟩ ∧ VRs μ out vs'
  | [], parts, vals, c, out, vs, h1, h2, h3, _, h5 => by
    simp only [compParts, Option.some.injEq] at h1
    subst h1
    simp only [partVals, Option.some.injEq] at h2
    subst h2
    simp only [fillA, Option.some.injEq] at h3
    subst h3
    exact ⟨vs, rfl, h5⟩
  | (i, x) :: ps, parts, vals, c, out, vs, h1, h2, h3, h4, h5 => by
    unfold compParts at h1
    split at h1
    · rename_i off n r hp hr
      simp only [Option.some.injEq] at h1
      subst h1
      unfold partVals at h2
      split at h2
      · rename_i v r' hv hr'
        simp only [Option.some.injEq] at h2
        subst h2
        unfold fillA at h3
        split at h3
        · rename_i hn
          split at h3
          · rename_i c' hc'
            have hx := VR.cells (h4 (i, x) (by simp) v hv)
            obtain ⟨hl, hc⟩ := paste_VRs h5 hx hc'
            obtain ⟨vs', hf, ho⟩ := fill_ok hr hr' h3 (fun p hp => h4 p (by simp [hp])) hc
            refine ⟨vs', ?_, ho⟩
            have hsz : (ρ x).cells.size = n := by rw [← hn, ← hx.length, Array.length_toList]
            simp only [Array.length_toList, hsz] at hl
            simp only [List.map_cons, Instr.fill, hp]
            rw [if_neg (by simp [hsz]; omega)]
            rw [← hf]
            congr 1
            rw [← Array.foldl_toList, Array.toList_zipIdx, fold_set off _ 0 _ (by simp [hsz]; omega)]
            simp
          · cases h3
        · cases h3
      · cases h2
    · cases h1

theorem zeroOf_ok {t : TypeId} {z : List AV} (h : zeroOf P t = some z) : ∃ zv : Value, VRs μ z zv.cells.toList ∧ (∀ w, (zeroValue t).run P w = .ok zv w) ∧ (P.info? t).bind (·.zero) = some zv := by
  unfold zeroOf at h
  simp only [bind, Option.bind_eq_some_iff] at h
  obtain ⟨i, hi, zv, hz, h⟩ := h
  exact ⟨zv, avsOf_VR h, fun w => by simp [zeroValue, typeInfo, hi, hz], by simp [hi, hz]⟩

theorem places_run (fs : Array Field) (h : (fs.toList.all fun f => (sizeQ P f.type).isSome) = true) (w : World) :
    (fs.mapM (m := Sem) fun f => do pure (f.offset, ← sizeOf f.type)).run P w = .ok (fs.map fun f => (f.offset, (sizeQ P f.type).getD 0)) w := by
  have key : ∀ l : List Field, (l.all fun f => (sizeQ P f.type).isSome) = true →
      (l.mapM (m := Sem) fun f => Prod.mk f.offset <$> sizeOf f.type).run P w = .ok (l.map fun f => (f.offset, (sizeQ P f.type).getD 0)) w := by
    intro l
    induction l with
    | nil => intro _; simp
    | cons f l ih =>
      intro hl
      simp only [List.all_cons, Bool.and_eq_true] at hl
      obtain ⟨n, hn⟩ := Option.isSome_iff_exists.1 hl.1
      simp [r_size hn, ih hl.2, hn]
  rw [Array.mapM_eq_mapM_toList]
  simp only [bind_pure_comp, Sem.run_map, key _ h, Result.andThen_ok]
  rw [← Array.toList_map]

theorem p_build {t : TypeId} {ps : Array (Nat × Operand)} (ho : o.op = .build t ps) (hc : compOp P o = some aop) (hr : OR μ tm ρ o) (he : evPure tm aop = some v) : PureOk P o ρ μ v := by
  have hops : ∀ p ∈ ps.toList, ∀ a, opnd tm p.2 = some a → VR μ a (ρ p.2) := fun p hp a ha => hr p.2 (by simp [ho, Op.operands]; exact ⟨p.1, by simpa using hp⟩) a ha
  simp only [compOp, compOpB, ho, bind, Option.bind_eq_some_iff] at hc
  obtain ⟨z, hz, hc⟩ := hc
  obtain ⟨zv, hzr, hzw, _⟩ := zeroOf_ok (μ := μ) hz
  split at hc
  · rename_i fs hu
    split at hc
    · rename_i hall
      simp only [Option.map_eq_some_iff] at hc
      obtain ⟨parts, hp, rfl⟩ := hc
      simp only [evPure, evPureB] at he
      split at he
      · rename_i vals hv
        simp only [Option.map_eq_some_iff] at he
        obtain ⟨out, ho', rfl⟩ := he
        obtain ⟨vs', hf, hR⟩ := fill_ok hp hv ho' hops hzr
        refine ⟨.agg ⟨vs'⟩, ⟨_, rfl, hR⟩, fun w => ?_⟩
        have hplace : (fun i : Nat => ((fs.map fun f => (f.offset, (sizeQ P f.type).getD 0))[i]? : Option (Nat × Nat))) = (fun i => do let f ← fs[i]?; let n ← sizeQ P f.type; pure (f.offset, n)) := by
          funext i
          simp only [Array.getElem?_map]
          cases hi : fs[i]? with
          | none => simp
          | some f =>
            have : f ∈ fs.toList := by simpa using Array.mem_of_getElem? hi
            obtain ⟨n, hn⟩ := Option.isSome_iff_exists.1 (List.all_eq_true.1 hall f this)
            simp [hn]
        simp only [execOp, ho, Instr.build, Sem.run_bind, hzw, Result.andThen_ok, r_und hu, places_run fs hall, hplace, Array.toList_map]
        have hf' : Instr.fill (fun i => do let f ← fs[i]?; let n ← sizeQ P f.type; pure (f.offset, n)) zv.cells (ps.toList.map fun (i, x) => (i, ρ x)) = some ⟨vs'⟩ := hf
        simp only [hf', Sem.run_pure, Result.andThen_ok]
      · cases he
    · cases hc
  · rename_i el hu
    simp only [Option.bind_eq_some_iff, pure, Option.some.injEq] at hc
    obtain ⟨n, hn, parts, hp, rfl⟩ := hc
    simp only [evPure, evPureB] at he
    split at he
    · rename_i vals hv
      simp only [Option.map_eq_some_iff] at he
      obtain ⟨out, ho', rfl⟩ := he
      obtain ⟨vs', hf, hR⟩ := fill_ok hp hv ho' hops hzr
      refine ⟨.agg ⟨vs'⟩, ⟨_, rfl, hR⟩, fun w => ?_⟩
      simp only [execOp, ho, Instr.build, Sem.run_bind, hzw, Result.andThen_ok, r_und hu, r_size hn, Array.toList_map]
      have hf' : Instr.fill (fun i => some (i * n, n)) zv.cells (ps.toList.map fun (i, x) => (i, ρ x)) = some ⟨vs'⟩ := hf
      simp only [hf', Sem.run_pure, Result.andThen_ok]
    · cases he
  · cases hc
end
end Go.AM
end
