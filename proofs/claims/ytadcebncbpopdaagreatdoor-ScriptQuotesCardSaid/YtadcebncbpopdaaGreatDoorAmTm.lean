/-
  AmTm: a part of the abstract machine that stands for runs of the program in the model: no statement of the seat is in it.
-/
import Derived.Test.YtadcebncbpopdaaGreatDoorAmOps3
set_option linter.unusedSimpArgs false
noncomputable section
namespace Go.AM
/-! ## Slots -/
section
variable {P : Program} {o : Oper} {aop : AOp} {tm tm' : Tm} {μ μ' : Mu} {v : AV} {g : G} {h h' : AH} {w w' : World} {callH : CallH} {nt : Nat}

/-- The model's slots hold what the abstract slots hold. -/
structure TR (μ : Mu) (nt : Nat) (tm : Tm) (tmps : Array Value) : Prop where
  size : tmps.size = nt
  get : ∀ t a, tm.get t = some a → ∃ v, tmps[t]? = some v ∧ VR μ a v

theorem TR.mono {tmps : Array Value} (h : μ.le μ') (k : TR μ nt tm tmps) : TR μ' nt tm tmps :=
  ⟨k.size, fun t a e => let ⟨v, h1, h2⟩ := k.get t a e; ⟨v, h1, h2.mono h⟩⟩

theorem opnd_ok {a : Act} (hg : GlobOk μ) {x : Operand} (hx : ∀ t, x = .tmp t → ∀ b, tm.get t = some b → ∃ v, a.tmps[t]? = some v ∧ VR μ b v) {b : AV} (e : opnd tm x = some b) : VR μ b (a.eval x) := by
  cases x with
  | tmp t =>
    obtain ⟨v, h1, h2⟩ := hx t rfl b e
    simp [Act.eval, Array.getD_eq_getD_getElem?, h1, h2]
  | const c => exact avWhole_VR e
  | global i =>
    simp only [opnd] at e
    split at e
    · rename_i hb
      cases e
      obtain ⟨n, hn⟩ := hg i hb
      exact ⟨_, hn, by simp [Act.eval]⟩
    · cases e
  | func f =>
    simp only [opnd, Option.some.injEq] at e
    subst e
    simp [VR, VRs, Act.eval]

theorem TR.or {a : Act} (hg : GlobOk μ) (k : TR μ nt tm a.tmps) : OR μ tm a.eval o :=
  fun _ _ _ e => opnd_ok hg (fun t _ b e => k.get t b e) e

theorem put_tmps {a : Act} {d : Option Nat} {v : Value} : (a.put d v).tmps = match d with | some d => a.tmps.setIfInBounds d v | none => a.tmps := by
  cases d <;> rfl
theorem put_defers {a : Act} {d : Option Nat} {v : Value} : (a.put d v).defers = a.defers := by
  cases d <;> rfl

theorem TR.put {a : Act} {v' : Value} {d : Option Nat} (k : TR μ nt tm a.tmps) (hv : VR μ v v') (e : setT nt tm d v = some tm') : TR μ nt tm' (a.put d v').tmps := by
  cases d with
  | none => simp only [setT, Option.some.injEq] at e; subst e; exact k
  | some d =>
    simp only [setT] at e
    split at e
    · rename_i hd
      simp only [Option.some.injEq] at e
      subst e
      refine ⟨by simp [Act.put, k.size], fun t b hb => ?_⟩
      rw [Tr.get_put] at hb
      split at hb
      · rename_i et
        subst et
        simp only [Option.some.injEq] at hb
        subst hb
        exact ⟨v', by simp [Act.put, k.size, hd], hv⟩
      · rename_i et
        obtain ⟨u, h1, h2⟩ := k.get t b hb
        exact ⟨u, by simp only [Act.put]; rw [Array.getElem?_setIfInBounds_ne (fun e => et e.symm)]; exact h1, h2⟩
    · cases e

/-- A guard says the same here and there. -/
theorem guard_ok {ops : Array Oper} {aop : AOper} {a : Act} {b : Bool} (hc : compOper P ops o = some aop) (hx : ∀ t c, aop.guard = some (t, c) → ∀ b, tm.get t = some b → ∃ v, a.tmps[t]? = some v ∧ VR μ b v) (hb : guardOk tm aop.guard = some b) :
    Region.wanted o (yielded ops a.tmps) = b := by
  unfold compOper at hc
  split at hc
  · rename_i hg
    have : aop.guard = none := by
      split at hc <;> (simp only [Option.some.injEq] at hc; subst hc; rfl)
    rw [this] at hb
    simp only [guardOk, Option.some.injEq] at hb
    simp [Region.wanted, hg, hb]
  · rename_i j c hg
    have : ∃ d, (ops[j]?).bind (·.dst) = some d ∧ aop.guard = some (d, c) := by
      split at hc
      · rename_i d _ hd _; simp only [Option.some.injEq] at hc; subst hc; exact ⟨d, hd, rfl⟩
      · rename_i d hd _; simp only [Option.some.injEq] at hc; subst hc; exact ⟨d, hd, rfl⟩
      · cases hc
    obtain ⟨d, hd, e⟩ := this
    rw [e] at hb
    simp only [guardOk] at hb
    split at hb
    · rename_i q hq
      obtain ⟨u, h1, h2⟩ := hx d c e _ hq
      simp only [VR] at h2
      subst h2
      simp only [Option.some.injEq] at hb
      subst hb
      simp [Region.wanted, hg, yielded, hd, h1]
    · rename_i hq
      obtain ⟨u, h1, h2⟩ := hx d c e _ hq
      simp only [VR, VRs] at h2
      obtain ⟨vs, rfl, rfl⟩ := h2
      simp only [Option.some.injEq] at hb
      subst hb
      simp [Region.wanted, hg, yielded, hd, h1]
    · cases hb

theorem compOper_dst {ops : Array Oper} {aop : AOper} (hc : compOper P ops o = some aop) : aop.dst = o.dst := by
  unfold compOper at hc
  split at hc
  · split at hc <;> (simp only [Option.some.injEq] at hc; subst hc; rfl)
  · split at hc
    · simp only [Option.some.injEq] at hc; subst hc; rfl
    · simp only [Option.some.injEq] at hc; subst hc; rfl
    · cases hc

theorem compOper_op {ops : Array Oper} {aop : AOper} (hc : compOper P ops o = some aop) : compOp P o = some aop.op ∨ ∃ s, aop.op = .bad s := by
  unfold compOper at hc
  split at hc
  · split at hc
    · rename_i he; simp only [Option.some.injEq] at hc; subst hc; exact .inl he
    · simp only [Option.some.injEq] at hc; subst hc; exact .inr ⟨_, rfl⟩
  · split at hc
    · rename_i he; simp only [Option.some.injEq] at hc; subst hc; exact .inl he
    · simp only [Option.some.injEq] at hc; subst hc; exact .inr ⟨_, rfl⟩
    · cases hc

theorem bad_none {s : String} {tm : Tm} : evEff callH tm h (.bad s) = none := rfl

theorem compOps_get {ops : Array Oper} : ∀ {l : List Oper} {al : List AOper}, compOps P ops l = some al → al.length = l.length ∧ ∀ (j : Nat) (o : Oper), l[j]? = some o → ∃ ao, al[j]? = some ao ∧ compOper P ops o = some ao
  | [], al, h => by simp only [compOps, Option.some.injEq] at h; subst h; exact ⟨rfl, fun j o e => by simp at e⟩
  | o :: r, al, h => by
    simp only [compOps] at h
    split at h
    · rename_i ao ar h1 h2
      simp only [Option.some.injEq] at h
      subst h
      obtain ⟨hl, hg⟩ := compOps_get h2
      refine ⟨by simp [hl], fun j o e => ?_⟩
      cases j with
      | zero => simp at e; subst e; exact ⟨ao, rfl, h1⟩
      | succ j => simpa using hg j o (by simpa using e)
    · cases h

/-! ## Regions in the text's order -/

theorem region_ok (hC : CallOk P callH) {ops : Array Oper} {Q : Exit → Act → World → Prop} {tmE : Tm} {hE : AH} : ∀ (l : List Oper) (al : List AOper) (k : Nat), (∀ j o, l[j]? = some o → ops[k + j]? = some o) → compOps P ops l = some al →
    ∀ (tm : Tm) (h : AH) (μ : Mu) (g : G) (w : World) (a : Act), GlobOk μ → St μ g h w → TR μ nt tm a.tmps → evOps callH nt al tm h = some (tmE, hE) →
    (∀ a' w' μ', a'.defers = a.defers → TR μ' nt tmE a'.tmps → Post μ g h w hE w' μ' → Q .normal a' w') → wpOps P ops Q (List.range' k l.length) a w
  | [], al, k, _, hc, tm, h, μ, g, w, a, hg, s, ht, he, hq => by
    simp only [compOps, Option.some.injEq] at hc
    subst hc
    simp only [evOps, evOpsB, Option.some.injEq, Prod.mk.injEq] at he
    obtain ⟨rfl, rfl⟩ := he
    simp only [List.length_nil, List.range'_zero, wpOps]
    exact hq a w μ rfl ht (Post.refl s)
  | o :: r, al, k, hl, hc, tm, h, μ, g, w, a, hg, s, ht, he, hq => by
    simp only [compOps] at hc
    split at hc
    · rename_i ao ar h1 h2
      simp only [Option.some.injEq] at hc
      subst hc
      have hok := hl 0 o (by simp)
      simp only [Nat.add_zero] at hok
      have hr : ∀ j o, r[j]? = some o → ops[k + 1 + j]? = some o := fun j o e => by
        have := hl (j + 1) o (by simpa using e)
        rwa [show k + 1 + j = k + (j + 1) by omega]
      simp only [List.length_cons, List.range'_succ]
      rw [wpOps_cons]
      simp only [wpOp, hok]
      have hdst := compOper_dst h1
      simp only [evOps, evOpsB] at he
      split at he
      · cases he
      · rename_i hgd
        have hw := guard_ok (a := a) h1 (fun t c _ b e => ht.get t b e) hgd
        simp only [hw, Bool.false_eq_true, if_false]
        split at he
        · rename_i tm1 hset
          rw [hdst] at hset
          refine region_ok hC r ar (k + 1) hr h2 tm1 h μ g w _ hg s (ht.put vr_undef hset) he fun a' w' μ' hd h3 h4 => hq a' w' μ' (by rw [hd, put_defers]) h3 h4
        · cases he
      · rename_i hgd
        have hw := guard_ok (a := a) h1 (fun t c _ b e => ht.get t b e) hgd
        simp only [hw, if_true]
        left
        split at he
        · cases he
        · rename_i v h1' hev
          split at he
          · rename_i tm1 hset
            rw [hdst] at hset
            rcases compOper_op h1 with hop | ⟨e, hbad⟩
            · refine opwp (a := a) hC hg hop (ht.or hg) s hev _ _ fun v' w' μ' hv hp => ?_
              refine region_ok hC r ar (k + 1) hr h2 tm1 h1' μ' _ w' _ (hg.mono hp.le) hp.st ((ht.mono hp.le).put hv hset) he fun a' w2 μ2 hd h3 h4 => hq a' w2 μ2 (by rw [hd, put_defers]) h3 (hp.trans h4)
            · rw [hbad] at hev
              simp [evOp, kindOf, bad_none] at hev
          · cases he
    · cases hc
end
end Go.AM
end
