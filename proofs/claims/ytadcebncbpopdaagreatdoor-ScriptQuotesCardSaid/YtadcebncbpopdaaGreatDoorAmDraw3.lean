/-
  AmDraw3: a part of the abstract machine that stands for runs of the program in the model: no statement of the seat is in it.
-/
import Derived.Test.YtadcebncbpopdaaGreatDoorAmDraw2
set_option linter.unusedSimpArgs false
set_option linter.unusedSectionVars false
noncomputable section
namespace Go.AM

/-- What the abstract memory holds beyond the text's own: the blocks that are still to be made. -/
def gO (base : Nat) (al : List AOper) (hs : Nat → AH) (tms : Nat → Tm) (ons : Nat → Bool) (g0 : G) (h0 : AH) (p : Nat) : G := fun i =>
  match (if base + p ≤ i then blockOf al tms ons (i - base) else none) with
  | some b => some b
  | none => upd g0 h0 (hs p) i

structure Inv (base n nt : Nat) (al : List AOper) (hs : Nat → AH) (tms : Nat → Tm) (vs : Nat → AV) (ons : Nat → Bool) (μ0 : Mu) (g0 : G) (h0 : AH) (w0 : World) (tm0 : Tm) (df : List Deferred)
    (L : Nat → Prop) (p : Nat) (a : Act) (w : World) (μ : Mu) : Prop where
  pn : p ≤ n
  pe : p = n ∨ isEff al ons p
  p1 : ∀ j, j < p → isEff al ons j → L j
  p2 : ∀ j, p ≤ j → isEff al ons j → ¬ L j
  glob : GlobOk μ
  le : μ0.le μ
  sim : Sim μ (gO base al hs tms ons g0 h0 p) (hs p).next w
  bl : ∀ q j b, q ≤ p → (∀ k, q ≤ k → k < p → ¬ isEff al ons k) → q ≤ j → blockOf al tms ons j = some b → (hs q).get (base + j) = none
  un : ∀ j b, blockOf al tms ons j = some b → ¬ L j → μ (base + j) = none ∧ (j < p → (hs p).get (base + j) = some b)
  frC : ∀ b, b < w0.heap.size → (∀ i B m, g0 i = some B → B.isRo = false → μ0 i = some m → m.b ≠ b) → w.heap[b]? = w0.heap[b]?
  img : ∀ j B m, gO base al hs tms ons g0 h0 p j = some B → μ j = some m → B.isRo = false → w0.heap.size ≤ m.b ∨ ∃ i C k, g0 i = some C ∧ C.isRo = false ∧ μ0 i = some k ∧ k.b = m.b
  frA : ∀ i, i < h0.next → μ0 i = none → (hs p).get i = h0.get i ∧ μ i = none
  crt : ∀ i B, h0.get i = none → (hs p).get i = some B → g0 i = none
  nx : h0.next + n ≤ (hs p).next
  sz : w0.heap.size ≤ w.heap.size
  os : w.os = w0.os
  tape : w.tape = w0.tape
  out : w.output = w0.output
  tsz : a.tmps.size = nt
  t1 : ∀ j ao d, al[j]? = some ao → ao.dst = some d → L j → (∀ j' ao', al[j']? = some ao' → ao'.dst = some d → L j' → j' ≤ j) → ∃ v, a.tmps[d]? = some v ∧ VR μ (vs j) v
  t0 : ∀ t b, (∀ j ao, al[j]? = some ao → ao.dst = some t → ¬ L j) → tm0.get t = some b → ∃ v, a.tmps[t]? = some v ∧ VR μ b v
  dfs : a.defers = df

theorem mem_tmpsOf {t : Nat} : ∀ {l : List Operand}, Operand.tmp t ∈ l → t ∈ tmpsOf l
  | [], h => by simp at h
  | x :: r, h => by
    rcases List.mem_cons.1 h with e | e
    · subst e; simp [tmpsOf]
    · have := mem_tmpsOf e
      cases x <;> simp [tmpsOf, this]

section
variable {P : Program} {callH : CallH} {nt base n : Nat} {bef : List Nat} {conf : List (Nat × Nat)} {ops : Array Oper} {al : List AOper} {steps : List Step}
  {hs : Nat → AH} {tms : Nat → Tm} {vs : Nat → AV} {ons : Nat → Bool} {μ0 : Mu} {g0 : G} {h0 : AH} {w0 : World} {tm0 : Tm} {df : List Deferred}
  (D : DC P callH nt base n bef conf ops al steps hs tms vs ons μ0 g0 h0 w0 tm0)
  {L : Nat → Prop} {p : Nat} {a : Act} {w : World} {μ : Mu}
include D

/-- Listed sets are closed. -/
def Closed (ops : Array Oper) (L : Nat → Prop) : Prop := ∀ j o, L j → ops[j]? = some o → ∀ e ∈ o.after, Region.binds .any e = true → L e.on

/-- Writers of a slot that a ready operation reads: those listed are those ahead of it. -/
theorem DC.writers (hL : Closed ops L) {j : Nat} {o : Oper} {ao : AOper} (ho : ops[j]? = some o) (hao : al[j]? = some ao) (hun : ¬ L j) (hed : ∀ e ∈ o.after, Region.binds .any e = true → L e.on)
    {t : Nat} (ht : t ∈ reads o ao.guard) {k : Nat} {ak : AOper} (hk : al[k]? = some ak) (hd : ak.dst = some t) (hkj : k ≠ j) : L k ↔ k < j := by
  obtain ⟨ok, hok, _⟩ := D.oper hk
  rcases Nat.lt_or_gt_of_ne hkj with hlt | hgt
  · refine ⟨fun _ => hlt, fun _ => ?_⟩
    rcases D.pair hlt hok ho hk hao with h | ⟨⟨h1, _, _⟩, _⟩
    · exact bef_listed D.befok hL (j + 1) j (by omega) o ho hed k h
    · exact absurd ht (h1 t hd)
  · refine ⟨fun hLk => ?_, fun h => by omega⟩
    exfalso
    rcases D.pair hgt ho hok hao hk with h | ⟨⟨_, _, h3⟩, _⟩
    · exact hun (bef_listed D.befok hL (k + 1) k (by omega) ok hok (hL k ok hLk hok) j h)
    · exact absurd ht (h3 t hd)

theorem DC.read_slot (hL : Closed ops L) (I : Inv base n nt al hs tms vs ons μ0 g0 h0 w0 tm0 df L p a w μ) {j : Nat} {o : Oper} {ao : AOper} (ho : ops[j]? = some o) (hao : al[j]? = some ao) (hun : ¬ L j)
    (hed : ∀ e ∈ o.after, Region.binds .any e = true → L e.on) {t : Nat} (ht : t ∈ reads o ao.guard) {b : AV} (hb : (tms j).get t = some b) : ∃ v, a.tmps[t]? = some v ∧ VR μ b v := by
  have hjn : j < n := by
    have := (List.getElem?_eq_some_iff.1 hao).1
    rwa [D.len] at this
  rcases D.last t j (by omega) with ⟨j', ao', h1, h2, h3, h4, h5⟩ | ⟨h1, h2⟩
  · rw [h4] at hb
    cases hb
    refine I.t1 j' ao' t h2 h3 ((D.writers hL ho hao hun hed ht h2 h3 (by omega)).2 h1) fun k ak hk hd hLk => ?_
    by_cases e : k = j
    · subst e; exact absurd hLk hun
    · have hkj := (D.writers hL ho hao hun hed ht hk hd e).1 hLk
      by_cases e2 : k ≤ j'
      · exact e2
      · exact absurd hd (h5 k ak (by omega) hkj hk)
  · rw [h2] at hb
    refine I.t0 t b (fun k ak hk hd hLk => ?_) hb
    by_cases e : k = j
    · subst e; exact hun hLk
    · exact h1 k ak ((D.writers hL ho hao hun hed ht hk hd e).1 hLk) hk hd

theorem DC.operands (hL : Closed ops L) (I : Inv base n nt al hs tms vs ons μ0 g0 h0 w0 tm0 df L p a w μ) {j : Nat} {o : Oper} {ao : AOper} (ho : ops[j]? = some o) (hao : al[j]? = some ao) (hun : ¬ L j)
    (hed : ∀ e ∈ o.after, Region.binds .any e = true → L e.on) : OR μ (tms j) a.eval o := by
  intro x hx b hb
  refine opnd_ok I.glob (fun t e b hb => D.read_slot hL I ho hao hun hed ?_ hb) hb
  subst e
  exact List.mem_append_left _ (mem_tmpsOf (Array.mem_toList_iff.2 hx))

theorem DC.wanted (hL : Closed ops L) (I : Inv base n nt al hs tms vs ons μ0 g0 h0 w0 tm0 df L p a w μ) {j : Nat} {o : Oper} {ao : AOper} (ho : ops[j]? = some o) (hao : al[j]? = some ao) (hc : compOper P ops o = some ao) (hun : ¬ L j)
    (hed : ∀ e ∈ o.after, Region.binds .any e = true → L e.on) : Region.wanted o (yielded ops a.tmps) = ons j := by
  refine guard_ok hc (fun t c e b hb => D.read_slot hL I ho hao hun hed ?_ hb) (D.txt.all j ao hao).1
  unfold reads
  rw [e]
  simp

/-- The slots after one more operation. -/
theorem DC.slots (hL : Closed ops L) (I : Inv base n nt al hs tms vs ons μ0 g0 h0 w0 tm0 df L p a w μ) {j : Nat} {o : Oper} {ao : AOper} (ho : ops[j]? = some o) (hao : al[j]? = some ao) (hc : compOper P ops o = some ao) (hun : ¬ L j)
    {μ' : Mu} (hle : μ.le μ') {v' : Value} (hv : VR μ' (vs j) v') {L' : Nat → Prop} (hL' : ∀ k, L' k ↔ L k ∨ k = j) :
    (a.put o.dst v').tmps.size = nt ∧
    (∀ k ak d, al[k]? = some ak → ak.dst = some d → L' k → (∀ j' ao', al[j']? = some ao' → ao'.dst = some d → L' j' → j' ≤ k) → ∃ v, (a.put o.dst v').tmps[d]? = some v ∧ VR μ' (vs k) v) ∧
    (∀ t b, (∀ k ak, al[k]? = some ak → ak.dst = some t → ¬ L' k) → tm0.get t = some b → ∃ v, (a.put o.dst v').tmps[t]? = some v ∧ VR μ' b v) := by
  have hdst := compOper_dst hc
  have hset := (D.txt.all j ao hao).2.1
  have hne : ∀ d, ao.dst ≠ some d → (a.put o.dst v').tmps[d]? = a.tmps[d]? := by
    intro d hd
    rw [put_tmps, ← hdst]
    cases e : ao.dst with
    | none => rfl
    | some q =>
      rw [e] at hd
      exact Array.getElem?_setIfInBounds_ne fun e2 => hd (by rw [e2])
  refine ⟨?_, ?_, ?_⟩
  · rw [put_tmps]
    cases o.dst <;> simp [I.tsz]
  · intro k ak d hk hd hLk hmax
    by_cases e : k = j
    · subst e
      rw [hao] at hk
      cases hk
      rw [hd] at hset
      simp only [setT] at hset
      split at hset
      · rename_i hlt
        exact ⟨v', by rw [put_tmps, ← hdst, hd]; simp [I.tsz, hlt], hv⟩
      · cases hset
    · have hLk' : L k := ((hL' k).1 hLk).resolve_right e
      have hdj : ao.dst ≠ some d := by
        intro hdj
        have hjk := hmax j ao hao hdj ((hL' j).2 (.inr rfl))
        obtain ⟨ok, hok, _⟩ := D.oper hk
        rcases D.pair (by omega : j < k) ho hok hao hk with h | ⟨⟨_, h2, _⟩, _⟩
        · exact hun (bef_listed D.befok hL (k + 1) k (by omega) ok hok (hL k ok hLk' hok) j h)
        · exact h2 d hdj hd
      obtain ⟨u, h1, h2⟩ := I.t1 k ak d hk hd hLk' fun j' ao' h1 h2 h3 => hmax j' ao' h1 h2 ((hL' j').2 (.inl h3))
      exact ⟨u, by rw [hne d hdj]; exact h1, h2.mono hle⟩
  · intro t b hno hb
    obtain ⟨u, h1, h2⟩ := I.t0 t b (fun k ak hk hd hLk => hno k ak hk hd ((hL' k).2 (.inl hLk))) hb
    have hdj : ao.dst ≠ some t := fun hdj => hno j ao hao hdj ((hL' j).2 (.inr rfl))
    exact ⟨u, by rw [hne t hdj]; exact h1, h2.mono hle⟩

/-- An operation that is no effect and makes nothing. -/
theorem DC.plain (hL : Closed ops L) (I : Inv base n nt al hs tms vs ons μ0 g0 h0 w0 tm0 df L p a w μ) {j : Nat} {o : Oper} {ao : AOper} (ho : ops[j]? = some o) (hao : al[j]? = some ao) (hc : compOper P ops o = some ao) (hun : ¬ L j)
    (hne : ¬ isEff al ons j) {v' : Value} (hv : VR μ (vs j) v') {L' : Nat → Prop} (hL' : ∀ k, L' k ↔ L k ∨ k = j) :
    Inv base n nt al hs tms vs ons μ0 g0 h0 w0 tm0 df L' p (a.put o.dst v') w μ := by
  obtain ⟨s1, s2, s3⟩ := D.slots hL I ho hao hc hun (Mu.le.refl μ) hv hL'
  exact { I with
    p1 := fun k hk he => (hL' k).2 (.inl (I.p1 k hk he))
    p2 := fun k hk he h => ((hL' k).1 h).elim (I.p2 k hk he) fun e => hne (e ▸ he)
    un := fun k b hb hk => I.un k b hb fun h => hk ((hL' k).2 (.inl h))
    tsz := s1
    t1 := s2
    t0 := s3
    dfs := by rw [put_defers]; exact I.dfs }

/-- The memory as the text has it ahead of p is within what is held. -/
theorem DC.ext_p (I : Inv base n nt al hs tms vs ons μ0 g0 h0 w0 tm0 df L p a w μ) : Ext (hs p) (gO base al hs tms ons g0 h0 p) := by
  intro i B hi
  unfold gO
  split
  · rename_i b hb
    exfalso
    split at hb
    · rename_i hle
      have := I.bl p (i - base) b (Nat.le_refl _) (fun k _ _ => by omega) (by omega) hb
      rw [show base + (i - base) = i by omega, hi] at this
      cases this
    · cases hb
  · simp [upd, hi]

theorem DC.st_p (I : Inv base n nt al hs tms vs ons μ0 g0 h0 w0 tm0 df L p a w μ) : St μ (gO base al hs tms ons g0 h0 p) (hs p) w := ⟨D.ext_p I, I.sim⟩

/-- The same for any place q ahead of p with no effect between, and behind p as long as no effect stands between. -/
theorem DC.st_q (I : Inv base n nt al hs tms vs ons μ0 g0 h0 w0 tm0 df L p a w μ) {q : Nat} (hq : q ≤ n) (hno : ∀ j, q ≤ j → j < p → ¬ isEff al ons j) (hno2 : ∀ j, p ≤ j → j < q → ¬ isEff al ons j) :
    St μ (gO base al hs tms ons g0 h0 p) (hs q) w := by
  have hle : q ≤ p := by
    by_cases e : q ≤ p
    · exact e
    · rcases I.pe with h | h
      · omega
      · exact absurd h (hno2 p (Nat.le_refl _) (by omega))
  obtain ⟨h1, h2⟩ := D.quiet p hle I.pn hno
  refine ⟨fun i B hi => ?_, h1 ▸ I.sim⟩
  have hp := h2 i
  by_cases hin : base + q ≤ i ∧ i < base + p
  · rw [if_pos hin] at hp
    cases hb : blockOf al tms ons (i - base) with
    | none => rw [hb] at hp; exact D.ext_p I i B (by rw [hp]; exact hi)
    | some b =>
      have := I.bl q (i - base) b hle hno (by omega) hb
      rw [show base + (i - base) = i by omega, hi] at this
      cases this
  · rw [if_neg hin] at hp
    exact D.ext_p I i B (by rw [hp]; exact hi)
end
end Go.AM
end
