/-
  AmDraw5: a part of the abstract machine that stands for runs of the program in the model: no statement of the seat is in it.
-/
import Derived.Test.YtadcebncbpopdaaGreatDoorAmDraw4
set_option linter.unusedSimpArgs false
set_option linter.unusedSectionVars false
noncomputable section
namespace Go.AM

theorem set_count : ∀ (l : List Bool) (i : Nat), l[i]? = some false → ((l.set i true).filter (!·)).length + 1 = (l.filter (!·)).length
  | [], i, h => by simp at h
  | b :: l, 0, h => by simp at h; subst h; simp
  | b :: l, i + 1, h => by
    have := set_count l i (by simpa using h)
    cases b <;> simp [List.set_cons_succ] <;> omega

theorem count_zero : ∀ (l : List Bool), (l.filter (!·)).length = 0 → ∀ i, i < l.length → l[i]? = some true
  | [], _, i, h => by simp at h
  | b :: l, h, i, hi => by
    cases b
    · simp at h
    · cases i with
      | zero => rfl
      | succ i => simpa using count_zero l (by simpa using h) i (by simpa using hi)

section
variable {P : Program} {callH : CallH} {nt base n : Nat} {bef : List Nat} {conf : List (Nat × Nat)} {ops : Array Oper} {al : List AOper} {steps : List Step}
  {hs : Nat → AH} {tms : Nat → Tm} {vs : Nat → AV} {ons : Nat → Bool} {μ0 : Mu} {g0 : G} {h0 : AH} {w0 : World} {tm0 : Tm} {df : List Deferred}
  (D : DC P callH nt base n bef conf ops al steps hs tms vs ons μ0 g0 h0 w0 tm0)
  {Q : Exit → Act → World → Prop}
include D

theorem DC.fin {p : Nat} {a : Act} {w : World} {μ : Mu} {L : Nat → Prop} (hall : ∀ j, j < n → L j) (I : Inv base n nt al hs tms vs ons μ0 g0 h0 w0 tm0 df L p a w μ) :
    a.defers = df ∧ TR μ nt (tms n) a.tmps ∧ Post μ0 g0 h0 w0 (hs n) w μ := by
  have hp : p = n := by
    rcases I.pe with e | e
    · exact e
    · exfalso
      have h1 := I.p2 p (Nat.le_refl _) e
      obtain ⟨ao, hao, _⟩ := e
      exact h1 (hall p (D.lt hao))
  subst hp
  have hg : gO base al hs tms ons g0 h0 p = upd g0 h0 (hs p) := by
    funext i
    unfold gO
    split
    · rename_i b hb
      split at hb
      · have := D.blk_lt hb; omega
      · cases hb
    · rfl
  refine ⟨I.dfs, ⟨I.tsz, fun t b hb => ?_⟩, ⟨I.le, by rw [← hg]; exact I.sim, I.frC, by rw [← hg]; exact I.img, I.frA, I.crt, by have := I.nx; omega, I.sz, I.os, I.tape, I.out⟩⟩
  rcases D.last t p (Nat.le_refl _) with ⟨j', ao', h1, h2, h3, h4, h5⟩ | ⟨h1, h2⟩
  · rw [h4] at hb
    cases hb
    refine I.t1 j' ao' t h2 h3 (hall j' h1) fun k ak hk hd _ => ?_
    by_cases e : k ≤ j'
    · exact e
    · exact absurd hd (h5 k ak (by omega) (D.lt hk) hk)
  · rw [h2] at hb
    exact I.t0 t b (fun k ak hk hd _ => h1 k ak (D.lt hk) hk hd) hb

theorem DC.run (hq : ∀ a' w' μ', a'.defers = df → TR μ' nt (tms n) a'.tmps → Post μ0 g0 h0 w0 (hs n) w' μ' → Q .normal a' w') :
    ∀ (fuel : Nat) (listed : Array Bool) (p : Nat) (a : Act) (w : World) (μ : Mu), listed.size = n → (listed.toList.filter (!·)).length = fuel → Closed ops (fun j => listed.getD j false = true) →
      Inv base n nt al hs tms vs ons μ0 g0 h0 w0 tm0 df (fun j => listed.getD j false = true) p a w μ → wpAny P .any ops Q fuel listed a w := by
  intro fuel
  induction fuel with
  | zero =>
    intro listed p a w μ hsz hcnt hcl I
    have hall : ∀ j, j < n → listed.getD j false = true := fun j hj => by
      have := count_zero _ hcnt j (by simpa [hsz] using hj)
      simp [Array.getD_eq_getD_getElem?, ← Array.getElem?_toList, this]
    refine ⟨?_, ?_⟩
    · cases hr : Region.ready .any ops listed with
      | nil => rfl
      | cons x r =>
        exfalso
        have hm : x ∈ Region.ready .any ops listed := by rw [hr]; simp
        obtain ⟨h1, o, h2, _⟩ := mem_ready.1 hm
        have h3 := hall x (by have := (Array.getElem?_eq_some_iff.1 h2).1; rw [D.hn]; exact this)
        have hx : x < listed.size := by rw [hsz, D.hn]; exact (Array.getElem?_eq_some_iff.1 h2).1
        simp [hx] at h1 h3
        rw [h1] at h3
        cases h3
    · obtain ⟨h1, h2, h3⟩ := D.fin hall I
      exact hq _ _ _ h1 h2 h3
  | succ fuel ih =>
    intro listed p a w μ hsz hcnt hcl I
    -- the first that is not listed is ready
    refine ⟨fun hr => ?_, fun j hj => ?_⟩
    · have hall : ∀ k j, j < k → j < n → listed.getD j false = true := by
        intro k
        induction k with
        | zero => intro j hj; omega
        | succ k ihk =>
          intro j hjk hj
          by_cases e : listed.getD j false = true
          · exact e
          · exfalso
            have hjo : j < ops.size := by rw [← D.hn]; exact hj
            have ho : ops[j]? = some ops[j] := by simp [hjo]
            have hm : j ∈ Region.ready .any ops listed := by
              refine mem_ready.2 ⟨?_, _, ho, fun e' he hb => ?_⟩
              · have hx : j < listed.size := by omega
                simp [hx] at e ⊢
                exact e
              · obtain ⟨h1, _⟩ := befOk_get D.befok j ops[j] (by simp [hjo])
                have := h1 e' (by simpa using he) hb
                exact ihk e'.on (by omega) (by omega)
            rw [hr] at hm
            cases hm
      obtain ⟨h1, h2, h3⟩ := D.fin (fun j hj => hall (j + 1) j (by omega) hj) I
      exact hq _ _ _ h1 h2 h3
    · obtain ⟨hun, o, ho, hed⟩ := mem_ready.1 hj
      have hjo : j < ops.size := (Array.getElem?_eq_some_iff.1 ho).1
      have hjl : j < listed.size := by rw [hsz, D.hn]; exact hjo
      have hlj : listed.toList[j]? = some false := by
        simp [hjl] at hun ⊢
        exact hun
      have hunL : ¬ listed.getD j false = true := by
        simp [hjl] at hun ⊢
        exact hun
      obtain ⟨ao, hao, hc⟩ := D.aoper ho
      have hL' : ∀ k, (listed.setIfInBounds j true).getD k false = true ↔ listed.getD k false = true ∨ k = j := by
        intro k
        by_cases e : k = j
        · subst e; simp [hjl]
        · rw [getD_set_ne false (Ne.symm e)]; simp [e]
      have hcl' : Closed ops fun k => (listed.setIfInBounds j true).getD k false = true := by
        intro k ok hk hok e he hb
        rw [hL'] at hk ⊢
        rcases hk with hk | rfl
        · exact .inl (hcl k ok hk hok e he hb)
        · rw [ho] at hok
          cases hok
          exact .inl (hed e he hb)
      have hcnt' : ((listed.setIfInBounds j true).toList.filter (!·)).length = fuel := by
        have := set_count _ _ hlj
        rw [Array.toList_setIfInBounds]
        omega
      have hsz' : (listed.setIfInBounds j true).size = n := by simpa using hsz
      have hgo : ∀ a' w' p' μ', Inv base n nt al hs tms vs ons μ0 g0 h0 w0 tm0 df (fun k => (listed.setIfInBounds j true).getD k false = true) p' a' w' μ' → wpAny P .any ops Q fuel (listed.setIfInBounds j true) a' w' :=
        fun a' w' p' μ' I' => ih _ p' a' w' μ' hsz' hcnt' hcl' I'
      have hw := D.wanted hcl I ho hao hc hunL hed
      have htx := D.txt.all j ao hao
      simp only [wpOp, ho, hw]
      cases hon : ons j with
      | false =>
        simp only [Bool.false_eq_true, if_false]
        refine hgo _ _ p μ (D.plain hcl I ho hao hc hunL ?_ ?_ hL')
        · rintro ⟨_, _, _, h⟩; rw [hon] at h; cases h
        · rw [(htx.2.2.1 hon).2]; exact vr_undef
      | true =>
        simp only [if_true]
        left
        have hev := htx.2.2.2.1 hon
        have hor := D.operands hcl I ho hao hunL hed
        cases hk : kindOf ao.op with
        | pure =>
          simp only [evAt, evOp, hk] at hev
          split at hev
          · rename_i u hu
            simp only [Option.some.injEq, Prod.mk.injEq] at hev
            rcases compOper_op hc with hop | ⟨s, hbad⟩
            · obtain ⟨v', hv, hrun⟩ := pure_all (fnOk_eval a) hop hk hor hu
              unfold Oper.wp
              rw [hrun w]
              refine hgo _ _ p μ (D.plain hcl I ho hao hc hunL ?_ (by rw [← hev.1]; exact hv) hL')
              rintro ⟨ao', h1, h2, _⟩; rw [hao] at h1; cases h1; rw [hk] at h2; cases h2
            · rw [hbad] at hk; cases hk
          · cases hev
        | read =>
          rcases compOper_op hc with hop | ⟨s, hbad⟩
          · obtain ⟨H, hst, hu⟩ := D.read_now hcl I ho hao hunL hed hk hon
            obtain ⟨v', hv, hrun⟩ := read_all (fnOk_eval a) hop hk hor hst hu
            unfold Oper.wp
            rw [hrun]
            refine hgo _ _ p μ (D.plain hcl I ho hao hc hunL ?_ hv hL')
            rintro ⟨ao', h1, h2, _⟩; rw [hao] at h1; cases h1; rw [hk] at h2; cases h2
          · rw [hbad] at hk; cases hk
        | alloc =>
          obtain ⟨v', w', μ', hrun, I'⟩ := D.alloc_step hcl I ho hao hc hunL hed hk hon hL'
          unfold Oper.wp
          rw [hrun]
          exact hgo _ _ p μ' I'
        | eff => exact D.eff_step hcl I ho hao hc hunL hed hk hon hL' hgo
end

/-- A drawn region. -/
theorem draw_ok {P : Program} {callH : CallH} (hC : CallOk P callH) (hm : P.follows .mixedOrders = true) {id : Nat} {ops : Array Oper} {al : List AOper} {conf : List (Nat × Nat)} {nt : Nat} (hcomp : compOps P ops ops.toList = some al)
    (hb : befOk (Region.before ops).toList 0 ops.toList = true) (hp : pairsAll (Region.before ops).toList (looks ops.toList al) 0 (looks ops.toList al) = some conf)
    {tm tm' : Tm} {h h' : AH} {steps : List Step} (he : evDraw callH nt h.next 0 al tm { h with next := h.next + al.length } = some (steps, tm', h')) (hst : stable steps conf = true)
    {μ : Mu} {g : G} {w : World} {a : Act} (hg : GlobOk μ) (s : St μ g h w) (ht : TR μ nt tm a.tmps) {Q : Exit → Act → World → Prop}
    (hq : ∀ a' w' μ', a'.defers = a.defers → TR μ' nt tm' a'.tmps → Post μ g h w h' w' μ' → Q .normal a' w') : (Code.region id ops true).wp P Q a w := by
  refine wp_region_any hm ?_
  obtain ⟨hs, tms, vs, ons, h1, h2, h3, h4, h5⟩ := txt_of al 0 tm _ he
  simp only [Nat.add_zero] at h5
  have hlen : al.length = ops.size := by rw [(compOps_get hcomp).1]; simp
  have D : DC P callH nt h.next ops.size (Region.before ops).toList conf ops al steps hs tms vs ons μ g h { w with drawn := w.drawn + 1 } tm :=
    ⟨hC, hcomp, hb, hp, hst, h5, by rw [h1, hlen], rfl, rfl, h3, s.drew _⟩
  obtain ⟨p, hp1, hp2, hp3, hp4⟩ := D.next_eff (ops.size) 0 (by omega)
  have hno : ∀ j, ¬ (Array.replicate ops.size false).getD j false = true := by
    intro j
    simp [Array.getD_eq_getD_getElem?, Array.getElem?_replicate]
    split <;> simp
  have hbase : ∀ i, h.next ≤ i → h.get i = none := fun i hi => by
    cases e : h.get i with
    | none => rfl
    | some B => have := s.ext i B e; rw [s.sim.new i hi] at this; cases this
  have hget0 : ∀ i, (hs 0).get i = h.get i := fun i => by rw [h1]; rfl
  have hquiet : ∀ q, q ≤ p → (hs q).next = h.next + ops.size ∧ ∀ i, (hs q).get i = match (if h.next ≤ i ∧ i < h.next + q then blockOf al tms ons (i - h.next) else none) with | some b => some b | none => h.get i := by
    intro q hq
    obtain ⟨a1, a2⟩ := D.quiet (p := 0) q (by omega) (by omega) fun j h1 h2 => hp3 j h1 (by omega)
    refine ⟨by rw [a1, h1, hlen], fun i => ?_⟩
    rw [a2 i, hget0]
    rfl
  have hμ : ∀ i, h.next ≤ i → μ i = none := fun i hi => by
    cases e : μ i with
    | none => rfl
    | some m => have := (s.sim.bnd i m e).1; omega
  have hgO : ∀ i, gO h.next al hs tms ons g h p i = match (if h.next ≤ i then blockOf al tms ons (i - h.next) else none) with | some b => some b | none => g i := by
    intro i
    unfold gO
    by_cases e : h.next + p ≤ i
    · rw [if_pos e, if_pos (by omega)]
      cases hbl : blockOf al tms ons (i - h.next) with
      | some b => rfl
      | none =>
        have := (hquiet p (Nat.le_refl _)).2 i
        rw [if_neg (by omega)] at this
        have hn := hbase i (by omega)
        simp [upd, this, hn]
    · rw [if_neg e]
      have hg2 := (hquiet p (Nat.le_refl _)).2 i
      by_cases e2 : h.next ≤ i
      · rw [if_pos ⟨e2, by omega⟩] at hg2
        rw [if_pos e2]
        have hn := hbase i e2
        cases hbl : blockOf al tms ons (i - h.next) with
        | none => rw [hbl] at hg2; simp [upd, hg2, hn]
        | some b => rw [hbl] at hg2; simp [upd, hg2]
      · rw [if_neg (by omega)] at hg2
        rw [if_neg e2]
        simp only [upd, hg2]
        cases hi : h.get i with
        | none => simp
        | some B => simp [s.ext i B hi]
  have hgOμ : ∀ i m B, μ i = some m → gO h.next al hs tms ons g h p i = some B → g i = some B := by
    intro i m B hm hB
    rw [hgO] at hB
    have : ¬ h.next ≤ i := fun hle => by rw [hμ i hle] at hm; cases hm
    rwa [if_neg this] at hB
  have hI : Inv h.next ops.size nt al hs tms vs ons μ g h { w with drawn := w.drawn + 1 } tm a.defers (fun j => (Array.replicate ops.size false).getD j false = true) p a { w with drawn := w.drawn + 1 } μ :=
    { pn := hp2, pe := hp4, p1 := fun j hj he => absurd he (hp3 j (by omega) hj), p2 := fun j _ _ => hno j, glob := hg, le := Mu.le.refl _
      sim := by
        rw [(hquiet p (Nat.le_refl _)).1]
        refine ⟨fun i B m hB hm => s.sim.blk i B m (hgOμ i m B hm hB) hm, fun i j B C m k hij hB hC hm hk => s.sim.inj i j B C m k hij (hgOμ i m B hm hB) (hgOμ j k C hk hC) hm hk, fun i m hm => ?_, fun i hi => ?_⟩
        · obtain ⟨h1, h2⟩ := s.sim.bnd i m hm
          exact ⟨by omega, h2⟩
        · rw [hgO, if_pos (by omega)]
          split
          · rename_i b hb
            have := D.blk_lt hb
            omega
          · exact s.sim.new i (by omega)
      bl := fun q j b hqp _ hqj hb => by
        rw [(hquiet q hqp).2, if_neg (by omega)]
        exact hbase _ (by omega)
      un := fun j b hb _ => ⟨hμ _ (by omega), fun hjp => by
        rw [(hquiet p (Nat.le_refl _)).2, if_pos (by omega), Nat.add_sub_cancel_left, hb]⟩
      frC := fun _ _ _ => rfl
      img := fun j B m hB hm hr => .inr ⟨j, B, m, hgOμ j m B hm hB, hr, hm, rfl⟩
      frA := fun i hi hn => ⟨by rw [(hquiet p (Nat.le_refl _)).2, if_neg (by omega)], hn⟩
      crt := fun i B h0 h1 => by
        by_cases e : h.next ≤ i
        · exact s.sim.new i e
        · rw [(hquiet p (Nat.le_refl _)).2, if_neg (by omega), h0] at h1
          cases h1
      nx := by rw [(hquiet p (Nat.le_refl _)).1]; omega
      sz := Nat.le_refl _
      os := rfl
      tape := rfl
      out := rfl
      tsz := ht.size
      t1 := fun j ao d _ _ h => absurd h (hno j)
      t0 := fun t b _ hb => ht.get t b hb
      dfs := rfl }
  refine D.run ?_ ops.size _ p a _ μ (by simp) (by simp [List.filter_eq_self.2]) (fun j o h => absurd h (hno j)) hI
  intro a' w' μ' hd htr hpost
  refine hq a' w' μ' hd (by rw [← h4, hlen]; exact htr) ?_
  rw [← h2, hlen]
  exact hpost.of_drew
end Go.AM
end
