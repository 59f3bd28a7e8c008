/-
  AmDraw4: a part of the abstract machine that stands for runs of the program in the model: no statement of the seat is in it.
-/
import Derived.Test.YtadcebncbpopdaaGreatDoorAmDraw3
set_option linter.unusedSimpArgs false
set_option linter.unusedSectionVars false
noncomputable section
namespace Go.AM

theorem last_in {Q : Nat → Prop} {j : Nat} : ∀ (p : Nat), (∀ k, j ≤ k → k < p → ¬ Q k) ∨ ∃ e, j ≤ e ∧ e < p ∧ Q e ∧ ∀ k, e + 1 ≤ k → k < p → ¬ Q k
  | 0 => .inl fun k _ h => by omega
  | p + 1 => by
    by_cases e : j ≤ p ∧ Q p
    · exact .inr ⟨p, e.1, by omega, e.2, fun k h1 h2 => by omega⟩
    · rcases last_in (Q := Q) (j := j) p with h | ⟨e', h1, h2, h3, h4⟩
      · refine .inl fun k h1 h2 => ?_
        by_cases ek : k = p
        · subst ek; exact fun hq => e ⟨h1, hq⟩
        · exact h k h1 (by omega)
      · refine .inr ⟨e', h1, by omega, h3, fun k h5 h6 => ?_⟩
        by_cases ek : k = p
        · subst ek; exact fun hq => e ⟨by omega, hq⟩
        · exact h4 k h5 (by omega)

theorem sim_late {μ : Mu} {g : G} {nxt i : Nat} {w w' : World} {B : AB} {m : MI} {o' : Obj} (s : Sim μ g nxt w) (hi : μ i = none) (hlt : i < nxt) (hg : g i = some B) (hmb : m.b = w.heap.size)
    (hh : w'.heap = w.heap.push o') (hBR : BR (μ.put i m) m B o') : Sim (μ.put i m) g nxt w' := by
  have hle := Mu.le_put (m := m) hi
  have hput : ∀ j k, (μ.put i m) j = some k → j ≠ i → μ j = some k := by
    intro j k hk hj
    simpa [Mu.put, hj] using hk
  have hself : ∀ k, (μ.put i m) i = some k → k = m := by
    intro k hk
    simpa [Mu.put, eq_comm] using hk
  refine ⟨?_, ?_, ?_, s.new⟩
  · intro j C k hj hk
    by_cases e : j = i
    · subst e
      rw [hg] at hj
      cases hj
      rw [hself k hk]
      exact ⟨o', by rw [hh, hmb]; simp, hBR⟩
    · obtain ⟨o, ho, hBo⟩ := s.blk j C k hj (hput j k hk e)
      have := (s.bnd j k (hput j k hk e)).2
      exact ⟨o, by rw [hh, Array.getElem?_push, if_neg (by omega)]; exact ho, hBo.mono hle⟩
  · intro x y C E k l hxy hC hE hk hl
    by_cases ex : x = i
    · have ey : y ≠ i := fun e => hxy (ex.trans e.symm)
      subst ex
      rw [hself k hk]
      have := (s.bnd y l (hput y l hl ey)).2
      omega
    · by_cases ey : y = i
      · subst ey
        rw [hself l hl]
        have := (s.bnd x k (hput x k hk ex)).2
        omega
      · exact s.inj x y C E k l hxy hC hE (hput x k hk ex) (hput y l hl ey)
  · intro j k hk
    by_cases e : j = i
    · subst e
      rw [hself k hk]
      exact ⟨hlt, by rw [hh, hmb]; simp⟩
    · obtain ⟨h1, h2⟩ := s.bnd j k (hput j k hk e)
      exact ⟨h1, by rw [hh]; simp; omega⟩

section
variable {P : Program} {callH : CallH} {nt base n : Nat} {bef : List Nat} {conf : List (Nat × Nat)} {ops : Array Oper} {al : List AOper} {steps : List Step}
  {hs : Nat → AH} {tms : Nat → Tm} {vs : Nat → AV} {ons : Nat → Bool} {μ0 : Mu} {g0 : G} {h0 : AH} {w0 : World} {tm0 : Tm} {df : List Deferred}
  (D : DC P callH nt base n bef conf ops al steps hs tms vs ons μ0 g0 h0 w0 tm0)
  {L : Nat → Prop} {p : Nat} {a : Act} {w : World} {μ : Mu}
include D

theorem DC.lt {j : Nat} {ao : AOper} (hao : al[j]? = some ao) : j < n := by
  have := (List.getElem?_eq_some_iff.1 hao).1
  rwa [D.len] at this

/-- A read tells, wherever it stands, what it tells in the text. -/
theorem DC.read_now (hL : Closed ops L) (I : Inv base n nt al hs tms vs ons μ0 g0 h0 w0 tm0 df L p a w μ) {j : Nat} {o : Oper} {ao : AOper} (ho : ops[j]? = some o) (hao : al[j]? = some ao) (hun : ¬ L j)
    (hed : ∀ e ∈ o.after, Region.binds .any e = true → L e.on) (hk : kindOf ao.op = .read) (hon : ons j = true) :
    ∃ H, St μ (gO base al hs tms ons g0 h0 p) H w ∧ evRead (tms j) H ao.op = some (vs j) := by
  have hjn := D.lt hao
  obtain ⟨_, _, _, hev, hstep⟩ := D.txt.all j ao hao
  have hev := hev hon
  simp only [evAt, evOp, hk] at hev
  have hrd : evRead (tms j) (hs j) ao.op = some (vs j) := by
    split at hev
    · rename_i u hu
      simp only [Option.some.injEq, Prod.mk.injEq] at hev
      rw [hu, hev.1]
    · cases hev
  have hnj : ¬ isEff al ons j := by
    rintro ⟨ao', h1, h2, _⟩
    rw [hao] at h1
    cases h1
    rw [hk] at h2
    cases h2
  by_cases hjp : p ≤ j
  · rcases I.pe with e | he
    · omega
    · have hpj : p < j := by
        rcases Nat.lt_or_eq_of_le hjp with h | h
        · exact h
        · subst h; exact absurd he hnj
      obtain ⟨ap, hap, hkp, honp⟩ := he
      obtain ⟨op, hop, _⟩ := D.oper hap
      rcases D.pair hpj hop ho hap hao with h | ⟨_, _, h3, _⟩
      · exact absurd (bef_listed D.befok hL (j + 1) j (by omega) o ho hed p h) (I.p2 p (Nat.le_refl _) ⟨ap, hap, hkp, honp⟩)
      · obtain ⟨sr, se, h4, h5, h6⟩ := stable_get D.stab j p (h3 hkp hk)
        rw [hstep] at h4
        cases h4
        have hsp := (D.txt.all p ap hap).2.2.2.2
        rw [hsp] at h5
        cases h5
        exact ⟨hs p, D.st_p I, (h6 hon honp).1⟩
  · rcases last_in (Q := isEff al ons) (j := j) p with h | ⟨e, h1, h2, h3, h4⟩
    · exact ⟨hs j, D.st_q I (by omega) h fun k h1 h2 => by omega, hrd⟩
    · have hje : j < e := by
        rcases Nat.lt_or_eq_of_le h1 with h | h
        · exact h
        · subst h; exact absurd h3 hnj
      have hLe := I.p1 e h2 h3
      obtain ⟨ae, hae, hke, hone⟩ := h3
      obtain ⟨oe, hoe, _⟩ := D.oper hae
      rcases D.pair hje ho hoe hao hae with h | ⟨_, _, _, h3'⟩
      · exact absurd (bef_listed D.befok hL (e + 1) e (by omega) oe hoe (hL e oe hLe hoe) j h) hun
      · obtain ⟨sr, se, h5, h6, h7⟩ := stable_get D.stab j e (h3' hk hke)
        rw [hstep] at h5
        cases h5
        have hsp := (D.txt.all e ae hae).2.2.2.2
        rw [hsp] at h6
        cases h6
        exact ⟨hs (e + 1), D.st_q I (by have := I.pn; omega) h4 fun k h1 h2 => by omega, (h7 hon hone).2⟩

theorem DC.alloc_step (hL : Closed ops L) (I : Inv base n nt al hs tms vs ons μ0 g0 h0 w0 tm0 df L p a w μ) {j : Nat} {o : Oper} {ao : AOper} (ho : ops[j]? = some o) (hao : al[j]? = some ao) (hc : compOper P ops o = some ao) (hun : ¬ L j)
    (hed : ∀ e ∈ o.after, Region.binds .any e = true → L e.on) (hk : kindOf ao.op = .alloc) (hon : ons j = true) {L' : Nat → Prop} (hL' : ∀ k, L' k ↔ L k ∨ k = j) :
    ∃ v' w' μ', (execOp a.eval o).run P w = .ok (.value v') w' ∧ Inv base n nt al hs tms vs ons μ0 g0 h0 w0 tm0 df L' p (a.put o.dst v') w' μ' := by
  have hjn := D.lt hao
  have hev := (D.txt.all j ao hao).2.2.2.1 hon
  simp only [evAt, hk] at hev
  have hor := D.operands hL I ho hao hun hed
  rcases compOper_op hc with hop | ⟨s, hbad⟩
  · split at hev
    · rename_i B f hal
      simp only [Option.some.injEq, Prod.mk.injEq] at hev
      have hblk : blockOf al tms ons j = some B := by simp [blockOf, hao, hon, hk, hal]
      obtain ⟨obj, v', sz, w', hrun, hh, hos, ht, hout, hB⟩ := alloc_all (w := w) hop hk hor hal
      obtain ⟨hfr, hpre⟩ := I.un j B hblk hun
      have hle := Mu.le_put (m := ⟨w.heap.size, 0, sz⟩) hfr
      obtain ⟨hBR, hVR⟩ := hB _ hle
      have hv : VR (μ.put (base + j) ⟨w.heap.size, 0, sz⟩) (vs j) v' := by
        rw [← hev.1]
        exact hVR _ (by simp [Mu.put])
      have hg : gO base al hs tms ons g0 h0 p (base + j) = some B := by
        unfold gO
        by_cases e : p ≤ j
        · rw [if_pos (by omega), Nat.add_sub_cancel_left, hblk]
        · rw [if_neg (by omega)]
          simp [upd, hpre (by omega)]
      have hnxt : base + j < (hs p).next := by have := I.nx; have := D.hbase; omega
      have hne : ∀ i, i ≠ base + j → (μ.put (base + j) ⟨w.heap.size, 0, sz⟩) i = μ i := fun i hi => by simp [Mu.put, hi]
      obtain ⟨s1, s2, s3⟩ := D.slots hL I ho hao hc hun hle hv hL'
      refine ⟨v', w', _, hrun, { pn := I.pn, pe := I.pe, p1 := fun k hk he => (hL' k).2 (.inl (I.p1 k hk he)), p2 := ?_, glob := I.glob.mono hle, le := I.le.trans hle, sim := sim_late I.sim hfr hnxt hg rfl hh hBR, bl := I.bl, un := ?_, frC := ?_, img := ?_, frA := ?_, crt := I.crt, nx := I.nx, sz := ?_, os := hos.trans I.os, tape := ht.trans I.tape, out := hout.trans I.out, tsz := s1, t1 := s2, t0 := s3, dfs := by rw [put_defers]; exact I.dfs }⟩
      · intro k hk' he h
        rcases (hL' k).1 h with h | rfl
        · exact I.p2 k hk' he h
        · obtain ⟨ao', h1, h2, _⟩ := he
          rw [hao] at h1
          cases h1
          rw [hk] at h2
          cases h2
      · intro k b hb hn
        have hkj : k ≠ j := fun e => hn ((hL' k).2 (.inr e))
        obtain ⟨h1, h2⟩ := I.un k b hb fun h => hn ((hL' k).2 (.inl h))
        exact ⟨by rw [hne _ (by omega)]; exact h1, h2⟩
      · intro b hb hno
        have := I.sz
        rw [hh, Array.getElem?_push, if_neg (by omega)]
        exact I.frC b hb hno
      · intro i C m hi hm hr
        by_cases e : i = base + j
        · subst e
          simp only [Mu.put, if_pos, Option.some.injEq] at hm
          subst hm
          exact .inl I.sz
        · rw [hne i e] at hm
          exact I.img i C m hi hm hr
      · intro i hi hn
        obtain ⟨h1, h2⟩ := I.frA i hi hn
        exact ⟨h1, by rw [hne i (by have := D.hbase; omega)]; exact h2⟩
      · have := I.sz
        rw [hh]; simp; omega
    · cases hev
  · rw [hbad] at hk
    cases hk

theorem DC.eff_step (hL : Closed ops L) (I : Inv base n nt al hs tms vs ons μ0 g0 h0 w0 tm0 df L p a w μ) {j : Nat} {o : Oper} {ao : AOper} (ho : ops[j]? = some o) (hao : al[j]? = some ao) (hc : compOper P ops o = some ao) (hun : ¬ L j)
    (hed : ∀ e ∈ o.after, Region.binds .any e = true → L e.on) (hk : kindOf ao.op = .eff) (hon : ons j = true) {L' : Nat → Prop} (hL' : ∀ k, L' k ↔ L k ∨ k = j)
    {next : Act → World → Prop} {Q : Exit → Act → World → Prop} (hn : ∀ a' w' p' μ', Inv base n nt al hs tms vs ons μ0 g0 h0 w0 tm0 df L' p' a' w' μ' → next a' w') : o.wp P a w next Q := by
  have hjn := D.lt hao
  have hej : isEff al ons j := ⟨ao, hao, hk, hon⟩
  -- it is the next effect
  have hpj : p = j := by
    by_cases h1 : j < p
    · exact absurd (I.p1 j h1 hej) hun
    · rcases I.pe with e | he
      · omega
      · rcases Nat.lt_or_eq_of_le (by omega : p ≤ j) with h | h
        · exfalso
          have hnp := I.p2 p (Nat.le_refl _) he
          obtain ⟨ap, hap, hkp, _⟩ := he
          obtain ⟨op, hop, _⟩ := D.oper hap
          rcases D.pair h hop ho hap hao with h | ⟨_, h2, _⟩
          · exact hnp (bef_listed D.befok hL (j + 1) j (by omega) o ho hed p h)
          · exact h2 ⟨hkp, hk⟩
        · exact h
  subst hpj
  have hev := (D.txt.all p ao hao).2.2.2.1 hon
  simp only [evAt, hk] at hev
  have hor := D.operands hL I ho hao hun hed
  rcases compOper_op hc with hop | ⟨s, hbad⟩
  · refine opwp (a := a) D.call I.glob hop hor (D.st_p I) hev _ _ fun v' w' μ' hv q => ?_
    obtain ⟨p', hp1, hp2, hp3, hp4⟩ := DC.next_eff D (n - (p + 1)) (p + 1) (by omega)
    obtain ⟨hnx, hget⟩ := D.quiet p' hp1 hp2 hp3
    obtain ⟨s1, s2, s3⟩ := D.slots hL I ho hao hc hun q.le hv hL'
    have hnone : ∀ k b, p + 1 ≤ k → blockOf al tms ons k = some b → (hs (p + 1)).get (base + k) = none := by
      intro k b hk' hb
      cases e : (hs (p + 1)).get (base + k) with
      | none => rfl
      | some C =>
        have h1 := q.crt _ _ (I.bl p k b (Nat.le_refl _) (fun _ _ _ => by omega) (by omega) hb) e
        unfold gO at h1
        rw [if_pos (by omega), Nat.add_sub_cancel_left, hb] at h1
        cases h1
    have hgp : ∀ i, (¬ ∃ k b, p ≤ k ∧ i = base + k ∧ blockOf al tms ons k = some b) → gO base al hs tms ons g0 h0 p i = upd g0 h0 (hs p) i := by
      intro i hi
      unfold gO
      split
      · rename_i b hb
        split at hb
        · exact absurd ⟨i - base, b, by omega, by omega, hb⟩ hi
        · cases hb
      · rfl
    have hg' : gO base al hs tms ons g0 h0 p' = upd (gO base al hs tms ons g0 h0 p) (hs p) (hs (p + 1)) := by
      funext i
      by_cases hi : ∃ k b, p ≤ k ∧ i = base + k ∧ blockOf al tms ons k = some b
      · obtain ⟨k, b, hpk, rfl, hb⟩ := hi
        have hpk' : p + 1 ≤ k := by
          by_cases e : k = p
          · subst e; exfalso; obtain ⟨ao', f, h1, _, h3, _⟩ := D.blk_kind hb; rw [hao] at h1; cases h1; rw [hk] at h3; cases h3
          · omega
        have r1 := I.bl p k b (Nat.le_refl _) (fun _ _ _ => by omega) hpk hb
        have r2 := hnone k b hpk' hb
        have r3 : gO base al hs tms ons g0 h0 p (base + k) = some b := by
          unfold gO; rw [if_pos (by omega), Nat.add_sub_cancel_left, hb]
        simp only [upd, r1, r2, Option.isNone_none, Bool.and_self, if_true, r3]
        unfold gO
        by_cases e : p' ≤ k
        · rw [if_pos (by omega), Nat.add_sub_cancel_left, hb]
        · rw [if_neg (by omega)]
          have := hget (base + k)
          rw [if_pos (by omega), Nat.add_sub_cancel_left, hb] at this
          simp [upd, this]
      · have h1 : gO base al hs tms ons g0 h0 p' i = upd g0 h0 (hs p') i := by
          unfold gO
          split
          · rename_i b hb
            split at hb
            · exact absurd ⟨i - base, b, by omega, by omega, hb⟩ hi
            · cases hb
          · rfl
        have h2 : (hs p').get i = (hs (p + 1)).get i := by
          rw [hget i]
          split
          · rename_i b hb
            split at hb
            · rename_i hin; exact absurd ⟨i - base, b, by omega, by omega, hb⟩ hi
            · cases hb
          · rfl
        rw [h1]
        have h3 := hgp i hi
        have h4 : ∀ B, h0.get i = none → (hs p).get i = some B → g0 i = none := fun B => I.crt i B
        simp only [upd, h2] at h3 ⊢
        rw [h3]
        cases e0 : h0.get i <;> cases e1 : (hs p).get i <;> cases e2 : (hs (p + 1)).get i <;> simp
        exact h4 _ e0 e1
    refine hn _ _ p' μ' { pn := hp2, pe := hp4, p1 := ?_, p2 := ?_, glob := I.glob.mono q.le, le := I.le.trans q.le, sim := ?_, bl := ?_, un := ?_, frC := ?_, img := ?_, frA := ?_, crt := ?_, nx := ?_, sz := Nat.le_trans I.sz q.sz, os := q.os.trans I.os, tape := q.tape.trans I.tape, out := q.out.trans I.out, tsz := s1, t1 := s2, t0 := s3, dfs := by rw [put_defers]; exact I.dfs }
    · intro k hk' he
      refine (hL' k).2 ?_
      by_cases e : k = p
      · exact .inr e
      · by_cases e2 : k < p
        · exact .inl (I.p1 k e2 he)
        · exact absurd he (hp3 k (by omega) hk')
    · intro k hk' he h
      rcases (hL' k).1 h with h | rfl
      · exact I.p2 k (by omega) he h
      · omega
    · rw [hg', hnx]
      exact q.sim
    · intro x k b hxp hno hxk hb
      have hx1 : p + 1 ≤ x := by
        by_cases e : x ≤ p
        · exact absurd hej (hno p e (by omega))
        · omega
      obtain ⟨_, hgx⟩ := D.quiet x hx1 (by omega) fun k h1 h2 => hp3 k h1 (by omega)
      rw [hgx, if_neg (by omega)]
      exact hnone k b (by omega) hb
    · intro k b hb hnk
      have hkp : k ≠ p := fun e => hnk ((hL' k).2 (.inr e))
      obtain ⟨h1, h2⟩ := I.un k b hb fun h => hnk ((hL' k).2 (.inl h))
      have hlt : base + k < (hs p).next := by have := I.nx; have := D.hbase; have := D.blk_lt hb; omega
      obtain ⟨h3, h4⟩ := q.frA (base + k) hlt h1
      refine ⟨h4, fun hkp' => ?_⟩
      rw [hget]
      by_cases e : p + 1 ≤ k
      · rw [if_pos (by omega), Nat.add_sub_cancel_left, hb]
      · rw [if_neg (by omega), h3]
        exact h2 (by omega)
    · intro b hb hno
      rw [q.frC b (Nat.lt_of_lt_of_le hb I.sz) fun i B m hi hr hm => ?_, I.frC b hb hno]
      rcases I.img i B m hi hm hr with h | ⟨x, C, k, hx, hrx, hkx, e⟩
      · omega
      · exact e ▸ hno x C k hx hrx hkx
    · intro i C m hi hm hr
      rw [hg'] at hi
      rcases q.img i C m hi hm hr with h | ⟨x, E, k, hx, hrx, hkx, e⟩
      · exact .inl (Nat.le_trans I.sz h)
      · rcases I.img x E k hx hkx hrx with h | ⟨x', C', k', a1, b1, c1, d1⟩
        · exact .inl (e ▸ h)
        · exact .inr ⟨x', C', k', a1, b1, c1, d1.trans e⟩
    · intro i hi hni
      obtain ⟨h1, h2⟩ := I.frA i hi hni
      obtain ⟨h3, h4⟩ := q.frA i (by have := I.nx; omega) h2
      refine ⟨?_, h4⟩
      rw [hget, if_neg (by have := D.hbase; omega), h3, h1]
    · intro i B hi0 hi
      by_cases hin : base ≤ i
      · exact D.st0.sim.new i (by have := D.hbase; omega)
      · rw [hget, if_neg (by omega)] at hi
        cases e : (hs p).get i with
        | some C => exact I.crt i C hi0 e
        | none =>
          have h1 := q.crt i B e hi
          rw [hgp i (by rintro ⟨k, b, _, h, _⟩; omega)] at h1
          simpa [upd, hi0, e] using h1
    · rw [hnx]; exact Nat.le_trans I.nx q.nx
  · rw [hbad] at hev
    simp [evOp, kindOf, bad_none] at hev
end
end Go.AM
end
