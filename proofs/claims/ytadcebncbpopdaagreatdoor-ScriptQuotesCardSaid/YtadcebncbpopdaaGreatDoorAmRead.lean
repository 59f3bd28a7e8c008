/-
  AmRead: a part of the abstract machine that stands for runs of the program in the model: no statement of the seat is in it.
-/
import Derived.Test.YtadcebncbpopdaaGreatDoorAmPure6
import Derived.Laws.BytesString
set_option linter.unusedSimpArgs false
noncomputable section
namespace Go.AM
section
variable {P : Program} {o : Oper} {aop : AOp} {tm : Tm} {ρ : Operand → Value} {μ : Mu} {v : AV} {g : G} {h : AH} {w : World}

/-- The cells of a block, as the abstract memory tells them. -/
theorem cells_ok (s : St μ g h w) {i : Nat} {B : AB} {c : List AV} {m : MI} (hb : h.get i = some B) (hc : B.cs = some c) (hm : μ i = some m) :
    m.base + c.length ≤ m.size ∧ ∀ (k : Nat) (a : AV), c[k]? = some a → ∃ v, w.cell? ⟨m.b, m.base + k, none⟩ = some v ∧ VR μ a v := by
  obtain ⟨ob, ho, hB⟩ := s.sim.blk i B m (s.ext i B hb) hm
  cases B <;> simp only [AB.cs, Option.some.injEq] at hc <;> try (cases hc; done)
  all_goals
    subst hc
    simp only [BR] at hB
  · obtain ⟨cs, fr, rfl, h1, h2, _, _, h3⟩ := hB
    refine ⟨h2, fun k a e => ?_⟩
    obtain ⟨v, hv, hr⟩ := h3 k a e
    exact ⟨v, by simp [World.cell?, ho, hv], hr⟩
  · obtain ⟨cs, fr, rfl, h1, h2, h3⟩ := hB
    refine ⟨h2, fun k a e => ?_⟩
    obtain ⟨v, hv, hr⟩ := h3 k a e
    exact ⟨v, by simp [World.cell?, ho, hv], hr⟩

theorem loadFrom_ok {b : Nat} : ∀ (vs : List Value) (off i : Nat) (acc : Array Value), (∀ k v, vs[k]? = some v → w.cell? ⟨b, off + (i + k), none⟩ = some v) →
    (loadCellsFrom ⟨b, off, none⟩ i vs.length acc).run P w = .ok (acc ++ vs.toArray) w
  | [], off, i, acc, _ => by simp [loadCellsFrom]
  | v :: vs, off, i, acc, hk => by
    have h0 := hk 0 v (by simp)
    simp only [List.length_cons, loadCellsFrom, Sem.run_bind, add_addr, run_load]
    simp only [Nat.add_zero] at h0
    simp only [h0, Result.andThen_ok]
    rw [loadFrom_ok vs off (i + 1) _ fun k u hu => ?_]
    · congr 1
      simp
    · have := hk (k + 1) u (by simpa using hu)
      rwa [show i + (k + 1) = i + 1 + k by omega] at this

theorem loadCells_ok {b off : Nat} (vs : List Value) (hk : ∀ k v, vs[k]? = some v → w.cell? ⟨b, off + k, none⟩ = some v) : (loadCells ⟨b, off, none⟩ vs.length).run P w = .ok ⟨vs⟩ w := by
  unfold loadCells
  rw [loadFrom_ok vs off 0 #[] fun k v hv => by simpa using hk k v hv]
  simp

theorem readCells_ok (s : St μ g h w) {i off n : Nat} {cs : List AV} {m : MI} (hr : readCells h i off n = some cs) (hm : μ i = some m) :
    m.base + off + n ≤ m.size ∧ ∃ vs : List Value, vs.length = n ∧ VRs μ cs vs ∧ (∀ k v, vs[k]? = some v → w.cell? ⟨m.b, m.base + off + k, none⟩ = some v) ∧ ∀ P, (loadCells ⟨m.b, m.base + off, none⟩ n).run P w = .ok ⟨vs⟩ w := by
  unfold readCells at hr
  split at hr
  · rename_i B hB
    split at hr
    · rename_i c hc
      obtain ⟨hsz, hcell⟩ := cells_ok s hB hc hm
      unfold cut at hr
      split at hr
      · rename_i hlen
        simp only [Option.some.injEq] at hr
        subst hr
        refine ⟨by omega, ?_⟩
        have key : ∀ (l : List AV) (q : Nat), (∀ k a, l[k]? = some a → c[q + k]? = some a) → ∃ vs : List Value, vs.length = l.length ∧ VRs μ l vs ∧ ∀ k v, vs[k]? = some v → w.cell? ⟨m.b, m.base + q + k, none⟩ = some v := by
          intro l
          induction l with
          | nil => intro q _; exact ⟨[], rfl, rfl, by simp⟩
          | cons a l ih =>
            intro q hq
            obtain ⟨v, hv, hvr⟩ := hcell q a (by simpa using hq 0 a (by simp))
            obtain ⟨vs, h1, h2, h3⟩ := ih (q + 1) fun k a' e => by have := hq (k + 1) a' (by simpa using e); rwa [show q + (k + 1) = q + 1 + k by omega] at this
            refine ⟨v :: vs, by simp [h1], ⟨v, vs, rfl, hvr, h2⟩, fun k u hu => ?_⟩
            cases k with
            | zero => simp at hu; subst hu; simpa using hv
            | succ k => have := h3 k u (by simpa using hu); rwa [show m.base + q + (k + 1) = m.base + (q + 1) + k by omega]
        obtain ⟨vs, h1, h2, h3⟩ := key ((c.drop off).take n) off fun k a e => by
          rw [List.getElem?_take] at e
          split at e
          · rwa [List.getElem?_drop] at e
          · cases e
        have hn : vs.length = n := by rw [h1]; simp; omega
        refine ⟨vs, hn, h2, h3, fun P => ?_⟩
        have := loadCells_ok (P := P) vs h3
        rwa [hn] at this
      · cases hr
    · cases hr
  · cases hr

def ReadOk (P : Program) (o : Oper) (ρ : Operand → Value) (μ : Mu) (v : AV) (w : World) : Prop := ∃ v', VR μ v v' ∧ (execOp ρ o).run P w = .ok (.value v') w

theorem rd_load {t : TypeId} {x : Operand} (ho : o.op = .load t x) (hc : compOp P o = some aop) (hr : OR μ tm ρ o) (s : St μ g h w) (he : evRead tm h aop = some v) : ReadOk P o ρ μ v w := by
  simp only [compOp, compOpB, ho, bind, Option.bind_eq_some_iff, pure, Option.some.injEq] at hc
  obtain ⟨n, hn, gg, hg, rfl⟩ := hc
  simp only [evRead, evReadB] at he
  split at he
  · rename_i p hp
    have a1 := hr x (by simp [ho, Op.operands]) _ hp
    cases p <;> simp only [loadA] at he <;> try (cases he; done)
    rename_i i off
    simp only [VR] at a1
    obtain ⟨m, hm, e⟩ := a1
    split at he
    · rename_i cs hcs
      obtain ⟨_, vs, hlen, hvr, hcell, hload⟩ := readCells_ok s hcs hm
      cases gg
      · simp only [Bool.false_eq_true, if_false] at he hlen hload
        obtain ⟨v1, rfl⟩ : ∃ v1, vs = [v1] := by
          match vs, hlen with
          | [v1], _ => exact ⟨v1, rfl⟩
        cases cs with
        | nil => cases he
        | cons a r =>
          simp only [List.head?_cons, Option.some.injEq] at he
          subst he
          simp only [VRs] at hvr
          obtain ⟨v2, r2, e2, hv2, _⟩ := hvr
          cases e2
          refine ⟨v1, hv2, ?_⟩
          have := hcell 0 v1 (by simp)
          simp only [Nat.add_zero] at this
          simp [execOp, ho, Instr.loadAt, e, Instr.sureAddr, loadVar, r_isAgg hg, this]
      · simp only [if_true, Option.some.injEq] at he hload
        subst he
        refine ⟨.agg ⟨vs⟩, ⟨vs, rfl, hvr⟩, ?_⟩
        simp [execOp, ho, Instr.loadAt, e, Instr.sureAddr, loadVar, r_isAgg hg, r_size hn, hload]
    · cases he
  · cases he

theorem same_ok {ks b : Bool} {kt : TypeDesc} (hkt : kt = .string ∧ ks = true ∨ (∃ q, kt = .int q) ∧ ks = false) {k k2 : AV} {k' k2' : Value} (hk : VR μ k k') (hk2 : VR μ k2 k2') (hkk : keyOk ks k = true) (hb : sameKey k k2 = some b) :
    Instr.sameNow kt k' k2' = some b := by
  cases k <;> cases ks <;> simp [keyOk] at hkk <;> cases k2 <;> simp only [sameKey] at hb <;> (try (cases hb; done)) <;> simp only [VR] at hk hk2 <;> subst hk hk2
  · split at hb
    · rename_i e
      simp only [Option.some.injEq] at hb
      subst e
      rcases hkt with ⟨_, h⟩ | ⟨⟨q, rfl⟩, _⟩
      · cases h
      · simp [Instr.sameNow, hb]
    · cases hb
  · simp only [Option.some.injEq] at hb
    rcases hkt with ⟨rfl, _⟩ | ⟨_, h⟩
    · simp only [Instr.sameNow, beq_toListBytes, ByteArray.toList_mk, hb]
    · cases h

theorem find_ok {ks : Bool} {kt : TypeDesc} (hkt : kt = .string ∧ ks = true ∨ (∃ q, kt = .int q) ∧ ks = false) {k : AV} {k' : Value} (hk : VR μ k k') (hkk : keyOk ks k = true) :
    ∀ {es : List (AV × AV × Nat)} {es' : List MapEntry} {i : Nat} {r : Option (Nat × AV)}, ER μ es es' → findA k es i = some r →
    ∃ r' : Option (Nat × Value), Instr.findNow kt k' es' i = some r' ∧ (match r, r' with
      | none, none => True
      | some (j, v), some (j', v') => j = j' ∧ VR μ v v' ∧ i ≤ j ∧ (∃ e, es'[j - i]? = some e ∧ Instr.sameNow kt k' e.key = some true)
      | _, _ => False)
  | [], es', i, r, h1, h2 => by
    simp only [ER] at h1
    simp only [findA, Option.some.injEq] at h2
    subst h1 h2
    exact ⟨none, by simp [Instr.findNow], trivial⟩
  | (k2, v2, n2) :: es, es', i, r, h1, h2 => by
    simp only [ER] at h1
    obtain ⟨e, s', rfl, he1, he2, he3, he4⟩ := h1
    unfold findA at h2
    split at h2
    · rename_i hs
      simp only [Option.some.injEq] at h2
      subst h2
      have hs' := same_ok hkt hk he1 hkk hs
      exact ⟨some (i, e.val), by simp [Instr.findNow, hs'], rfl, he2, Nat.le_refl _, e, by simp, hs'⟩
    · rename_i hs
      have hs' := same_ok hkt hk he1 hkk hs
      obtain ⟨r', h3, h4⟩ := find_ok hkt hk hkk he4 h2
      refine ⟨r', by simp [Instr.findNow, hs', h3], ?_⟩
      cases r with
      | none => cases r' <;> simp_all
      | some q =>
        obtain ⟨j, v⟩ := q
        cases r' with
        | none => exact h4
        | some q' =>
          obtain ⟨j', v'⟩ := q'
          obtain ⟨rfl, hv, hij, e', he', hsm⟩ := h4
          refine ⟨rfl, hv, by omega, e', ?_, hsm⟩
          have : j - i = (j - (i + 1)) + 1 := by omega
          rw [this]
          simpa using he'
    · cases h2

theorem keyKind_ok {t : TypeId} {ks : Bool} (h : keyKind P t = some ks) : ∃ kt, P.underlying t = some kt ∧ (kt = .string ∧ ks = true ∨ (∃ q, kt = .int q) ∧ ks = false) := by
  unfold keyKind at h
  split at h
  · rename_i q hq
    simp only [Option.some.injEq] at h
    exact ⟨_, hq, .inr ⟨⟨q, rfl⟩, h.symm⟩⟩
  · rename_i hq
    simp only [Option.some.injEq] at h
    exact ⟨_, hq, .inl ⟨rfl, h.symm⟩⟩
  · cases h

theorem key_form {ks : Bool} {k : AV} {k' : Value} (hk : VR μ k k') (hkk : keyOk ks k = true) : (∃ q n, k' = .int q n) ∨ (∃ s, k' = .string s) := by
  cases k <;> cases ks <;> simp [keyOk] at hkk <;> simp only [VR] at hk
  · exact .inl ⟨_, _, hk⟩
  · exact .inr ⟨_, hk⟩

theorem checkKey_ok {t : TypeId} {ks : Bool} (h : keyKind P t = some ks) {k : AV} {k' : Value} (hk : VR μ k k') (hkk : keyOk ks k = true) (e : Bool) : (Instr.checkKey e 10000 t k').run P w = .ok () w := by
  obtain ⟨kt, hu, hkt⟩ := keyKind_ok h
  have : ∀ d, (Instr.checkKey e (d + 1) t k').run P w = .ok () w := by
    intro d
    rcases key_form hk hkk with ⟨q, n, rfl⟩ | ⟨s, rfl⟩ <;> rcases hkt with ⟨rfl, _⟩ | ⟨⟨q, rfl⟩, _⟩ <;> simp [Instr.checkKey, r_und hu]
  exact this 9999

theorem findKey_ok {t : TypeId} {ks : Bool} (hkk : keyKind P t = some ks) {k : AV} {k' : Value} (hk : VR μ k k') (hko : keyOk ks k = true) {es : List (AV × AV × Nat)} {es' : List MapEntry} {r : Option (Nat × AV)} (hE : ER μ es es') (hf : findA k es 0 = some r) :
    ∃ r' : Option (Nat × Value), (∀ w, (Instr.findKey t k' es').run P w = .ok r' w) ∧ (match r, r' with
      | none, none => True
      | some (j, v), some (j', v') => j = j' ∧ VR μ v v' ∧ (∃ e kt, es'[j]? = some e ∧ Instr.sameNow kt k' e.key = some true)
      | _, _ => False) := by
  obtain ⟨kt, hu, hkt⟩ := keyKind_ok hkk
  obtain ⟨r', h1, h2⟩ := find_ok hkt hk hko hE hf
  refine ⟨r', fun w => by simp [Instr.findKey, r_und hu, h1], ?_⟩
  cases r with
  | none => cases r' <;> simp_all
  | some q =>
    obtain ⟨j, v⟩ := q
    cases r' with
    | none => exact h2
    | some q' =>
      obtain ⟨j', v'⟩ := q'
      obtain ⟨rfl, hv, _, e, he, hs⟩ := h2
      exact ⟨rfl, hv, e, kt, by simpa using he, hs⟩

theorem map_ok (s : St μ g h w) {i : Nat} {es : List (AV × AV × Nat)} {cl : Nat} {m : MI} (hb : h.get i = some (.map es cl)) (hm : μ i = some m) : ∃ es', w.heap[m.b]? = some (.map ⟨es'⟩ cl) ∧ ER μ es es' := by
  obtain ⟨ob, ho, hB⟩ := s.sim.blk i _ m (s.ext i _ hb) hm
  simp only [BR] at hB
  obtain ⟨es', rfl, he⟩ := hB
  exact ⟨es', ho, he⟩

theorem run_getObj_map {r : Nat} {es' : Array MapEntry} {cl : Nat} (hb : w.heap[r]? = some (.map es' cl)) : (getObj r).run P w = .ok (.map es' cl) w := by
  simp [getObj, Sem.run, hb]

theorem rd_lookup {t : TypeId} {m k : Operand} {ok : Bool} (ho : o.op = .lookup t m k ok) (hc : compOp P o = some aop) (hr : OR μ tm ρ o) (s : St μ g h w) (he : evRead tm h aop = some v) : ReadOk P o ρ μ v w := by
  simp only [compOp, compOpB, ho] at hc
  split at hc
  · rename_i kt el hu
    split at hc
    · rename_i ks hks
      simp only [Option.map_eq_some_iff] at hc
      obtain ⟨z, hz, rfl⟩ := hc
      have hzero : ∃ zv, VR μ z zv ∧ ∀ w, (zeroValue el).run P w = .ok zv w := by
        unfold zeroVal at hz
        simp only [bind, Option.bind_eq_some_iff] at hz
        obtain ⟨i, hi, zv, hzv, h⟩ := hz
        exact ⟨zv, avWhole_VR h, fun w => by simp [zeroValue, typeInfo, hi, hzv]⟩
      obtain ⟨zv, hzR, hzw⟩ := hzero
      simp only [evRead, evReadB] at he
      split at he
      · rename_i mv kv h1 h2
        have a1 := hr m (by simp [ho, Op.operands]) _ h1
        have a2 := hr k (by simp [ho, Op.operands]) _ h2
        split at he
        · rename_i es hes
          split at he
          · rename_i hko
            have hent : ∃ es' : List MapEntry, ER μ es es' ∧ ((∃ b cl, ρ m = .map (some b) ∧ w.heap[b]? = some (.map ⟨es'⟩ cl)) ∨ (ρ m = .map none ∧ es' = [])) := by
              cases mv <;> simp only [reduceCtorEq] at hes <;> (try (cases hes; done))
              · rename_i i
                simp only [VR] at a1
                obtain ⟨mi, hmi, e1⟩ := a1
                split at hes
                · rename_i es0 cl hb
                  simp only [Option.some.injEq] at hes
                  subst hes
                  obtain ⟨es', hh, hE⟩ := map_ok s hb hmi
                  exact ⟨es', hE, .inl ⟨_, _, e1, hh⟩⟩
                · cases hes
              · simp only [Option.some.injEq] at hes
                subst hes
                simp only [VR] at a1
                exact ⟨[], rfl, .inr ⟨a1, rfl⟩⟩
            obtain ⟨es', hE, hK⟩ := hent
            split at he
            · rename_i j x hf
              obtain ⟨r', hfk, hm'⟩ := findKey_ok hks a2 hko hE hf
              cases r' with
              | none => exact hm'.elim
              | some q =>
                obtain ⟨j', x'⟩ := q
                obtain ⟨_, hx, _⟩ := hm'
                simp only [Option.some.injEq] at he
                subst he
                refine ⟨if ok then .tuple #[x', .bool true] else x', ?_, ?_⟩
                · cases ok
                  · simpa using hx
                  · exact ⟨_, rfl, _, _, rfl, hx, _, _, rfl, vr_bool, rfl⟩
                · rcases hK with ⟨b, cl, e1, hh⟩ | ⟨e1, rfl⟩
                  · simp [execOp, ho, Instr.lookup, r_und hu, e1, run_getObj_map hh, checkKey_ok hks a2 hko, hfk]
                  · simp [execOp, ho, Instr.lookup, r_und hu, e1, checkKey_ok hks a2 hko, hfk]
            · rename_i hf
              obtain ⟨r', hfk, hm'⟩ := findKey_ok hks a2 hko hE hf
              cases r' with
              | some q => exact hm'.elim
              | none =>
                simp only [Option.some.injEq] at he
                subst he
                refine ⟨if ok then .tuple #[zv, .bool false] else zv, ?_, ?_⟩
                · cases ok
                  · simpa using hzR
                  · exact ⟨_, rfl, _, _, rfl, hzR, _, _, rfl, vr_bool, rfl⟩
                · rcases hK with ⟨b, cl, e1, hh⟩ | ⟨e1, rfl⟩
                  · simp [execOp, ho, Instr.lookup, r_und hu, e1, run_getObj_map hh, checkKey_ok hks a2 hko, hfk, hzw]
                  · simp [execOp, ho, Instr.lookup, r_und hu, e1, checkKey_ok hks a2 hko, hfk, hzw]
            · cases he
          · cases he
        · cases he
      · cases he
    · cases hc
  · cases hc
end
end Go.AM
end
