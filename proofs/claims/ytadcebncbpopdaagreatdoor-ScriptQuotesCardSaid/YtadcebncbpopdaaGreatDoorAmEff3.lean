/-
  AmEff3: a part of the abstract machine that stands for runs of the program in the model: no statement of the seat is in it.
-/
import Derived.Test.YtadcebncbpopdaaGreatDoorAmEff2
set_option linter.unusedSimpArgs false
noncomputable section
namespace Go.AM
section
variable {P : Program} {o : Oper} {aop : AOp} {tm : Tm} {ρ : Operand → Value} {μ : Mu} {v : AV} {g : G} {h h' : AH} {w w' : World} {callH : CallH}

/-- A block is given up. -/
theorem post_del (s : St μ g h w) {i : Nat} {B : AB} (hB : h.get i = some B) {m : MI} (hm : μ i = some m) : Post μ g h w (h.del i) w μ := by
  have hu : ∀ j, upd g h (h.del i) j = if j = i then none else g j := by
    intro j
    unfold upd
    rw [AH.get_del]
    by_cases e : j = i
    · subst e; simp [hB]
    · simp only [if_neg e]
      cases hj : h.get j with
      | none => simp
      | some C => simp [s.ext j C hj]
  have sub : ∀ j C, upd g h (h.del i) j = some C → g j = some C := by
    intro j C hj
    rw [hu] at hj
    split at hj
    · cases hj
    · exact hj
  refine ⟨Mu.le.refl _, ⟨fun j C k hj hk => s.sim.blk j C k (sub j C hj) hk, fun a b C D k l hab hC hD hk hl => s.sim.inj a b C D k l hab (sub _ _ hC) (sub _ _ hD) hk hl, s.sim.bnd, fun j hj => ?_⟩, fun _ _ _ => rfl,
    fun j C k hj hk hr => .inr ⟨j, C, k, sub j C hj, hr, hk, rfl⟩, fun j hj hn => ?_, fun j C h0 h1 => ?_, Nat.le_refl _, Nat.le_refl _, rfl, rfl, rfl⟩
  · rw [hu]
    split
    · rfl
    · exact s.sim.new j hj
  · have e : j ≠ i := fun e => by subst e; rw [hm] at hn; cases hn
    exact ⟨by rw [AH.get_del, if_neg e], hn⟩
  · rw [AH.get_del] at h1
    split at h1
    · cases h1
    · rw [h0] at h1; cases h1

/-- A block is given up, and its room taken over by a new number. -/
theorem post_take (s : St μ g h w) {i : Nat} {B B' : AB} (hB : h.get i = some B) (hnr : B.isRo = false) {m m' : MI} (hm : μ i = some m) (hmb : m'.b = m.b) {o' : Obj} (hBR : BR (μ.put h.next m') m' B' o')
    (hh : w'.heap[m.b]? = some o') (hoth : ∀ b, b ≠ m.b → w'.heap[b]? = w.heap[b]?) (hsz : w'.heap.size = w.heap.size) (hos : w'.os = w.os) (ht : w'.tape = w.tape) (hout : w'.output = w.output) :
    Post μ g h w ((h.del i).new B') w' (μ.put h.next m') := by
  have hfr : μ h.next = none := by
    cases e : μ h.next with
    | none => rfl
    | some k => have := (s.sim.bnd _ _ e).1; omega
  have hgn : g h.next = none := s.sim.new _ (Nat.le_refl _)
  have hin : i ≠ h.next := fun e => by rw [e, hfr] at hm; cases hm
  have hget : ∀ j, ((h.del i).new B').get j = if j = h.next then some B' else if j = i then none else h.get j := by
    intro j
    rw [AH.get_new, AH.get_del, AH.next_del]
  have hu : ∀ j, upd g h ((h.del i).new B') j = if j = h.next then some B' else if j = i then none else g j := by
    intro j
    unfold upd
    rw [hget]
    by_cases e : j = h.next
    · simp [e]
    · simp only [if_neg e]
      by_cases e2 : j = i
      · subst e2; simp [hB]
      · simp only [if_neg e2]
        cases hj : h.get j with
        | none => simp
        | some C => simp [s.ext j C hj]
  have hle := Mu.le_put (m := m') hfr
  have hput : ∀ j k, (μ.put h.next m') j = some k → j ≠ h.next → μ j = some k := by
    intro j k hk hj
    simpa [Mu.put, hj] using hk
  have hputn : ∀ k, (μ.put h.next m') h.next = some k → k = m' := by
    intro k hk
    simp only [Mu.put, if_pos, Option.some.injEq] at hk
    exact hk.symm
  have old : ∀ j C, upd g h ((h.del i).new B') j = some C → j ≠ h.next → j ≠ i ∧ g j = some C := by
    intro j C hj hne
    rw [hu, if_neg hne] at hj
    split at hj
    · cases hj
    · rename_i e; exact ⟨e, hj⟩
  refine ⟨hle, ⟨?_, ?_, ?_, ?_⟩, ?_, ?_, ?_, ?_, Nat.le_succ _, by omega, hos, ht, hout⟩
  · intro j C k hj hk
    by_cases e : j = h.next
    · subst e
      rw [hu, if_pos rfl] at hj
      simp only [Option.some.injEq] at hj
      subst hj
      have := hputn k hk
      subst this
      exact ⟨o', by rw [hmb]; exact hh, hBR⟩
    · obtain ⟨hji, hg⟩ := old j C hj e
      have hk' := hput j k hk e
      obtain ⟨ob, hob, hBo⟩ := s.sim.blk j C k hg hk'
      have hne : k.b ≠ m.b := s.sim.inj j i C B k m hji hg (s.ext i B hB) hk' hm
      exact ⟨ob, by rw [hoth _ hne]; exact hob, hBo.mono hle⟩
  · intro a b C D k l hab hC hD hk hl
    by_cases ea : a = h.next
    · have eb : b ≠ h.next := fun e => hab (ea.trans e.symm)
      obtain ⟨hbi, hg⟩ := old b D hD eb
      subst ea
      have := hputn k hk
      subst this
      have := s.sim.inj b i D B l m hbi hg (s.ext i B hB) (hput b l hl eb) hm
      omega
    · obtain ⟨hai, hga⟩ := old a C hC ea
      by_cases eb : b = h.next
      · subst eb
        have := hputn l hl
        subst this
        have := s.sim.inj a i C B k m hai hga (s.ext i B hB) (hput a k hk ea) hm
        omega
      · obtain ⟨hbi, hgb⟩ := old b D hD eb
        exact s.sim.inj a b C D k l hab hga hgb (hput a k hk ea) (hput b l hl eb)
  · intro j k hk
    by_cases e : j = h.next
    · subst e
      have := hputn k hk
      subst this
      have := (s.sim.bnd i m hm).2
      exact ⟨Nat.lt_succ_self _, by omega⟩
    · obtain ⟨h1, h2⟩ := s.sim.bnd j k (hput j k hk e)
      exact ⟨Nat.lt_succ_of_lt h1, by omega⟩
  · intro j hj
    have hj' : h.next + 1 ≤ j := hj
    rw [hu, if_neg (by omega)]
    split
    · rfl
    · exact s.sim.new j (by omega)
  · intro b hb hn
    by_cases e : b = m.b
    · exact absurd e.symm (hn i B m (s.ext i B hB) hnr hm)
    · exact hoth b e
  · intro j C k hj hk hr
    by_cases e : j = h.next
    · subst e
      have := hputn k hk
      subst this
      exact .inr ⟨i, B, m, s.ext i B hB, hnr, hm, hmb.symm⟩
    · obtain ⟨_, hg⟩ := old j C hj e
      exact .inr ⟨j, C, k, hg, hr, hput j k hk e, rfl⟩
  · intro j hj hn
    have e : j ≠ h.next := by omega
    have e2 : j ≠ i := fun e => by subst e; rw [hm] at hn; cases hn
    exact ⟨by rw [hget, if_neg e, if_neg e2], by simp [Mu.put, e, hn]⟩
  · intro j C h0 h1
    rw [hget] at h1
    split at h1
    · rename_i e; subst e; exact hgn
    · split at h1
      · cases h1
      · rw [h0] at h1; cases h1

/-- What is appended: its cells. -/
theorem elems_ok (s : St μ g h w) {x : AV} {x' : Value} {size n : Nat} {xs : List AV} (hv : VR μ x x') (he : elemsA h size x = some (n, xs)) :
    ∃ us : List Value, us.length = n * size ∧ VRs μ xs us ∧ (∀ w, (Builtin.lenOf x').run P w = .ok n w) ∧ (∀ d k, k ≤ n → (Builtin.firstCells size k x').run P { w with drawn := d } = .ok ⟨us.take (k * size)⟩ { w with drawn := d }) := by
  cases x <;> simp only [elemsA] at he <;> (try (cases he; done))
  · split at he
    · rename_i hs
      subst hs
      rename_i sq
      simp only [Option.some.injEq, Prod.mk.injEq] at he
      obtain ⟨rfl, rfl⟩ := he
      simp only [VR] at hv
      subst hv
      refine ⟨sq.map fun b => Value.int .u8 b.toNat, by simp, ?_, fun w => by simp [Builtin.lenOf, ByteArray.size], fun d k hk => ?_⟩
      · refine VRs.of_get (by simp [cellsOfBytes]) fun k a e => ?_
        simp only [cellsOfBytes, List.getElem?_map, Option.map_eq_some_iff] at e
        obtain ⟨b, hb, rfl⟩ := e
        exact ⟨.int .u8 b.toNat, by simp [hb], vr_int⟩
      · simp only [Builtin.firstCells, Sem.run_pure, Nat.mul_one]
        congr 1
        rw [← Array.toList_inj]
        simp [ByteArray.data_extract, List.extract_eq_take_drop, List.map_take]
    · cases he
  · split at he
    · rename_i i off l c ex es hes
      subst hes
      simp only [Option.map_eq_some_iff, Prod.mk.injEq] at he
      obtain ⟨cs, hcs, rfl, rfl⟩ := he
      obtain ⟨m, off', c', rfl, hm, vs, hlen, hR, hcell, hload⟩ := slCells s hv (.inl rfl) hcs
      refine ⟨vs, hlen, hR, fun w => by simp [Builtin.lenOf], fun d k hk => ?_⟩
      simp only [Builtin.firstCells]
      have hk' : k * es ≤ l * es := Nat.mul_le_mul_right _ hk
      have := loadCells_ok (P := P) (w := { w with drawn := d }) (b := m.b) (off := off') (vs.take (k * es)) fun j v hj => hcell j v (by
        rw [List.getElem?_take] at hj
        split at hj
        · exact hj
        · cases hj)
      rwa [show (vs.take (k * es)).length = k * es by simp; omega] at this
    · cases he
  · simp only [Option.some.injEq, Prod.mk.injEq] at he
    obtain ⟨rfl, rfl⟩ := he
    simp only [VR] at hv
    subst hv
    exact ⟨[], by simp, rfl, fun w => by simp [Builtin.lenOf], fun d k _ => by simp [Builtin.firstCells]⟩
end
end Go.AM
end
