/-
  AmHoare: a part of the abstract machine that stands for runs of the program in the model: no statement of the seat is in it.
-/
import Derived.Test.YtadcebncbpopdaaGreatDoorAmHook
set_option linter.unusedSimpArgs false
noncomputable section
namespace Go.AM
/-! ## Runs in letters, call by call -/
section
variable {P : Program} {nt : Nat}

/-- The function is there and has a body. -/
def IsFn (P : Program) (f : Nat) : Prop := ∃ fn, P.funcs[f]? = some fn ∧ fn.body.isNone = false ∧ (fn.name == "runtime.NumGoroutine") = false

/-- A call, out of an abstract memory: what it tells and leaves. -/
def CallW (P : Program) (f : Nat) (args : List AV) (h : AH) (Q : AV → AH → Prop) : Prop :=
  IsFn P f ∧ ∀ μ g w cargs, GlobOk μ → St μ g h w → VRs μ args cargs → Calls P f ⟨cargs⟩ w fun e w' => ∃ v h' v' μ', Q v h' ∧ e = .returned v' ∧ VR μ' v v' ∧ Post μ g h w h' w' μ'

/-- The same, told wholly. -/
def CallR (P : Program) (f : Nat) (args : List AV) (h : AH) (v : AV) (h' : AH) : Prop := CallW P f args h fun x k => x = v ∧ k = h'

theorem CallW.mono {f : Nat} {args : List AV} {h : AH} {Q Q' : AV → AH → Prop} (c : CallW P f args h Q) (hq : ∀ v h', Q v h' → Q' v h') : CallW P f args h Q' :=
  ⟨c.1, fun μ g w cargs hg s ha => (c.2 μ g w cargs hg s ha).mono fun _ _ ⟨v, h', v', μ', q, r⟩ => ⟨v, h', v', μ', hq _ _ q, r⟩⟩

theorem callR_of_ok {callH : CallH} (hC : CallOk P callH) {f : Nat} {args : List AV} {h h' : AH} {v : AV} (e : callH f args h = some (v, h')) : CallR P f args h v h' := by
  obtain ⟨h1, h2⟩ := hC _ _ _ _ _ e
  exact ⟨h1, fun μ g w cargs hg s ha => (h2 μ g w cargs hg s ha).mono fun _ _ ⟨v', μ', a, b, c⟩ => ⟨v, h', v', μ', ⟨rfl, rfl⟩, a, b, c⟩⟩

open Classical in
/-- One call is known. -/
noncomputable def oneCall (f : Nat) (args : List AV) (h : AH) (v : AV) (h' : AH) : CallH := fun f' args' k => if f' = f ∧ args' = args ∧ k = h then some (v, h') else none

theorem oneCall_ok {f : Nat} {args : List AV} {h h' : AH} {v : AV} (c : CallR P f args h v h') : CallOk P (oneCall f args h v h') := by
  intro f' args' k v' k' e
  unfold oneCall at e
  split at e
  · rename_i he
    obtain ⟨rfl, rfl, rfl⟩ := he
    cases e
    exact ⟨c.1, fun μ g w cargs hg s ha => (c.2 μ g w cargs hg s ha).mono fun _ _ ⟨v, h', v', μ', ⟨e1, e2⟩, r⟩ => by subst e1; subst e2; exact ⟨v', μ', r⟩⟩
  · cases e

theorem oneCall_self {f : Nat} {args : List AV} {h h' : AH} {v : AV} : oneCall f args h v h' f args h = some (v, h') := by simp [oneCall]

/-- No call at all. -/
def noCall : CallH := fun _ _ _ => none
theorem noCall_ok : CallOk P noCall := callOk_none

/-- Compiled code, out of an abstract state. -/
def CodeW (P : Program) (nt : Nat) (ac : ACode) (t : Tm) (h : AH) (Q : Ex → Tm → AH → Prop) : Prop :=
  P.follows .mixedOrders = true → ∀ c, compCode P c = ac → ∀ μ g w a Q', GlobOk μ → St μ g h w → TR μ nt t a.tmps →
    (∀ ex t' h' a' w' μ', Q ex t' h' → a'.defers = a.defers → TR μ' nt t' a'.tmps → Post μ g h w h' w' μ' → Q' (toExit ex) a' w') → c.wp P Q' a w

theorem CodeW.mono {ac : ACode} {t : Tm} {h : AH} {Q Q' : Ex → Tm → AH → Prop} (c : CodeW P nt ac t h Q) (hq : ∀ e t h, Q e t h → Q' e t h) : CodeW P nt ac t h Q' :=
  fun hm k hk μ g w a R hg s ht hR => c hm k hk μ g w a R hg s ht fun ex t' h' a' w' μ' q => hR ex t' h' a' w' μ' (hq _ _ _ q)

/-- What was run wholly. -/
theorem codeW_det {F : Nat} {callH : CallH} (hC : CallOk P callH) {ac : ACode} {t : Tm} {h : AH} {Q : Ex → Tm → AH → Prop} (r : Ran (evCode F callH nt ac t h) Q) : CodeW P nt ac t h Q := by
  intro hm c hc μ g w a Q' hg s ht hQ
  subst hc
  cases e : evCode F callH nt (compCode P c) t h with
  | none => rw [e] at r; exact r.elim
  | some x =>
    obtain ⟨ex, t', h'⟩ := x
    rw [e] at r
    exact code_ok hC hm c e hg s ht fun a' w' μ' => hQ ex t' h' a' w' μ' r

theorem codeW_skip {t : Tm} {h : AH} {Q : Ex → Tm → AH → Prop} (q : Q .normal t h) : CodeW P nt .skip t h Q := codeW_det (F := 0) noCall_ok q
theorem codeW_exit {id : Nat} {t : Tm} {h : AH} {Q : Ex → Tm → AH → Prop} (q : Q (.exit id) t h) : CodeW P nt (.exit id) t h Q := codeW_det (F := 0) noCall_ok q
theorem codeW_ret {t : Tm} {h : AH} {Q : Ex → Tm → AH → Prop} (q : Q .ret t h) : CodeW P nt .ret t h Q := codeW_det (F := 0) noCall_ok q

theorem comp_seq {c : Code} {x y : ACode} (h : compCode P c = .seq x y) : ∃ a b, c = .seq a b ∧ compCode P a = x ∧ compCode P b = y := by
  cases c <;> simp only [compCode] at h <;> (try (cases h; done))
  case region => split at h <;> (try split at h) <;> (try split at h) <;> (try split at h) <;> cases h
  case seq a b => exact ⟨_, _, rfl, by cases h; rfl, by cases h; rfl⟩

theorem comp_cond {c : Code} {o : Operand} {x y : ACode} (h : compCode P c = .cond o x y) : ∃ a b, c = .cond o a b ∧ compCode P a = x ∧ compCode P b = y := by
  cases c <;> simp only [compCode] at h <;> (try (cases h; done))
  case region => split at h <;> (try split at h) <;> (try split at h) <;> (try split at h) <;> cases h
  case cond => exact ⟨_, _, by cases h; rfl, by cases h; rfl, by cases h; rfl⟩

theorem comp_block {c : Code} {id : Nat} {x : ACode} (h : compCode P c = .block id x) : ∃ a, c = .block id a ∧ compCode P a = x := by
  cases c <;> simp only [compCode] at h <;> (try (cases h; done))
  case region => split at h <;> (try split at h) <;> (try split at h) <;> (try split at h) <;> cases h
  case block => exact ⟨_, by cases h; rfl, by cases h; rfl⟩

theorem comp_loop {c : Code} {x : ACode} (h : compCode P c = .loop x) : ∃ a, c = .loop a ∧ compCode P a = x := by
  cases c <;> simp only [compCode] at h <;> (try (cases h; done))
  case region => split at h <;> (try split at h) <;> (try split at h) <;> (try split at h) <;> cases h
  case loop => exact ⟨_, rfl, by cases h; rfl⟩

theorem comp_region {c : Code} {l : List AOper} (h : compCode P c = .region l) : ∃ id ops, c = .region id ops false ∧ compOps P ops ops.toList = some l := by
  cases c <;> simp only [compCode] at h <;> (try (cases h; done))
  rename_i id ops d
  cases d
  · simp only [Bool.false_eq_true, if_false] at h
    split at h
    · rename_i al hal
      cases h
      exact ⟨_, _, rfl, hal⟩
    · cases h
  · simp only [if_true] at h
    split at h <;> (try split at h) <;> (try split at h) <;> cases h

theorem codeW_seq {x y : ACode} {t : Tm} {h : AH} {Q : Ex → Tm → AH → Prop}
    (k : CodeW P nt x t h fun e t h => match e with | .normal => CodeW P nt y t h Q | e => Q e t h) : CodeW P nt (.seq x y) t h Q := by
  intro hm c hc μ g w a Q' hg s ht hQ
  obtain ⟨c1, c2, rfl, h1, h2⟩ := comp_seq hc
  refine wp_seq (k hm c1 h1 μ g w a _ hg s ht fun ex t' h' a' w' μ' q hd htr hp => ?_)
  cases ex with
  | normal => exact q hm c2 h2 μ' _ w' a' _ (hg.mono hp.le) hp.st htr fun ex t2 h2 a2 w2 μ2 q2 hd2 htr2 hp2 => hQ ex t2 h2 a2 w2 μ2 q2 (hd2.trans hd) htr2 (hp.trans hp2)
  | exit id => exact hQ _ _ _ _ _ _ q hd htr hp
  | ret => exact hQ _ _ _ _ _ _ q hd htr hp

theorem codeW_cond_true {o : Operand} {x y : ACode} {t : Tm} {h : AH} {Q : Ex → Tm → AH → Prop} (ho : opnd t o = some (.bool true)) (k : CodeW P nt x t h Q) : CodeW P nt (.cond o x y) t h Q := by
  intro hm c hc μ g w a Q' hg s ht hQ
  obtain ⟨c1, c2, rfl, h1, h2⟩ := comp_cond hc
  have := opnd_ok (a := a) hg (fun t _ b e => ht.get t b e) ho
  simp only [VR] at this
  exact wp_cond_true this (k hm c1 h1 μ g w a Q' hg s ht hQ)
theorem codeW_cond_false {o : Operand} {x y : ACode} {t : Tm} {h : AH} {Q : Ex → Tm → AH → Prop} (ho : opnd t o = some (.bool false)) (k : CodeW P nt y t h Q) : CodeW P nt (.cond o x y) t h Q := by
  intro hm c hc μ g w a Q' hg s ht hQ
  obtain ⟨c1, c2, rfl, h1, h2⟩ := comp_cond hc
  have := opnd_ok (a := a) hg (fun t _ b e => ht.get t b e) ho
  simp only [VR] at this
  exact wp_cond_false this (k hm c2 h2 μ g w a Q' hg s ht hQ)
theorem codeW_cond {o : Operand} {x y : ACode} {t : Tm} {h : AH} {Q : Ex → Tm → AH → Prop} {b : Bool} (ho : opnd t o = some (.bool b)) (k : match b with | true => CodeW P nt x t h Q | false => CodeW P nt y t h Q) : CodeW P nt (.cond o x y) t h Q := by
  cases b
  · exact codeW_cond_false ho k
  · exact codeW_cond_true ho k

theorem codeW_block {id : Nat} {x : ACode} {t : Tm} {h : AH} {Q : Ex → Tm → AH → Prop}
    (k : CodeW P nt x t h fun e t h => match e with | .exit j => Q (if j = id then .normal else .exit j) t h | e => Q e t h) : CodeW P nt (.block id x) t h Q := by
  intro hm c hc μ g w a Q' hg s ht hQ
  obtain ⟨c1, rfl, h1⟩ := comp_block hc
  refine wp_block (k hm c1 h1 μ g w a _ hg s ht fun ex t' h' a' w' μ' q hd htr hp => ?_)
  cases ex with
  | normal => exact hQ .normal _ _ _ _ _ q hd htr hp
  | ret => exact hQ .ret _ _ _ _ _ q hd htr hp
  | exit j =>
    by_cases hj : j = id
    · simp only [hj, if_true] at q
      simp only [toExit, Exit.inBlock, hj, if_true]
      exact hQ .normal _ _ _ _ _ q hd htr hp
    · simp only [hj, if_false] at q
      simp only [toExit, Exit.inBlock, hj, if_false]
      exact hQ (.exit j) _ _ _ _ _ q hd htr hp

/-- A loop, by what holds ahead of each round: at n, so many rounds are left at the most. -/
theorem codeW_loop {x : ACode} {Q : Ex → Tm → AH → Prop} (I : Nat → Tm → AH → Prop)
    (step : ∀ n t h, I n t h → CodeW P nt x t h fun e t h => match e with | .normal => ∃ m, m < n ∧ I m t h | e => Q e t h) {n : Nat} {t : Tm} {h : AH} (i : I n t h) : CodeW P nt (.loop x) t h Q := by
  intro hm c hc μ g w a Q' hg s ht hQ
  obtain ⟨c1, rfl, h1⟩ := comp_loop hc
  refine wp_loop_rounds (n + 1) ?_
  have key : ∀ (n : Nat) (k : Nat), n < k → ∀ (t : Tm) (h : AH) (μ : Mu) (g : G) (w : World) (a : Act), I n t h → GlobOk μ → St μ g h w → TR μ nt t a.tmps →
      (∀ ex t' h' a' w' μ', Q ex t' h' → a'.defers = a.defers → TR μ' nt t' a'.tmps → Post μ g h w h' w' μ' → Q' (toExit ex) a' w') → Code.rounds P c1 Q' k a w := by
    intro n
    induction n using Nat.strongRecOn with
    | _ n ih =>
      intro k hk t h μ g w a i hg s ht hQ
      cases k with
      | zero => omega
      | succ k =>
        rw [rounds_succ]
        refine step n t h i hm c1 h1 μ g w a _ hg s ht fun ex t' h' a' w' μ' q hd htr hp => ?_
        cases ex with
        | normal =>
          obtain ⟨m, hlt, im⟩ := q
          exact ih m hlt k (by omega) t' h' μ' _ w' a' im (hg.mono hp.le) hp.st htr fun ex t2 h2 a2 w2 μ2 q2 hd2 htr2 hp2 => hQ ex t2 h2 a2 w2 μ2 q2 (hd2.trans hd) htr2 (hp.trans hp2)
        | exit id => exact hQ _ _ _ _ _ _ q hd htr hp
        | ret => exact hQ _ _ _ _ _ _ q hd htr hp
  exact key n (n + 1) (by omega) t h μ g w a i hg s ht hQ

/-- Operations of a region in the text's order. -/
inductive OpsW (P : Program) (nt : Nat) (Q : Tm → AH → Prop) : List AOper → Tm → AH → Prop
  | nil {t : Tm} {h : AH} (q : Q t h) : OpsW P nt Q [] t h
  | off {o : AOper} {r : List AOper} {t t' : Tm} {h : AH} (hg : guardOk t o.guard = some false) (ht : setT nt t o.dst (.tup []) = some t') (k : OpsW P nt Q r t' h) : OpsW P nt Q (o :: r) t h
  | op {o : AOper} {r : List AOper} {t t' : Tm} {h h' : AH} {v : AV} (hg : guardOk t o.guard = some true) (he : evOp noCall t h o.op = some (v, h')) (ht : setT nt t o.dst v = some t') (k : OpsW P nt Q r t' h') : OpsW P nt Q (o :: r) t h
  | call {o : AOper} {r : List AOper} {t : Tm} {h : AH} {f : Operand} {xs : List Operand} {fn : Nat} {fa fb vs : List AV} (R : AV → AH → Prop) (hg : guardOk t o.guard = some true) (ho : o.op = .call f xs)
      (hf : opnd t f = some (.fn fn fa fb)) (hx : opnds t xs = some vs) (hd : ∀ d, o.dst = some d → d < nt) (hc : CallW P fn (fa ++ vs ++ fb) h R)
      (k : ∀ v h', R v h' → OpsW P nt Q r (match o.dst with | some d => t.put d (some v) | none => t) h') : OpsW P nt Q (o :: r) t h

theorem opwp_callW {o : Oper} {tm : Tm} {μ : Mu} {g : G} {h : AH} {w : World} {a : Act} {f : Operand} {xs : List Operand} {fn : Nat} {fa fb vs : List AV} {R : AV → AH → Prop} (hg : GlobOk μ)
    (hc : compOp P o = some (.call f xs)) (hr : OR μ tm a.eval o) (s : St μ g h w) (hf : opnd tm f = some (.fn fn fa fb)) (hvs : opnds tm xs = some vs) (hC : CallW P fn (fa ++ vs ++ fb) h R)
    {next : Act → World → Prop} {Q : Exit → Act → World → Prop} (hn : ∀ v h' v' w' μ', R v h' → VR μ' v v' → Post μ g h w h' w' μ' → next (a.put o.dst v') w') : o.wp P a w next Q := by
  obtain ⟨c, ho, hcal, hargs⟩ := call_form hc
  have hmem : ∀ x ∈ xs, x ∈ o.op.operands := by
    intro x hx
    rw [ho]
    simp only [Op.operands, Call.operands, hcal]
    exact Array.mem_append.2 (.inr (by rw [← hargs] at hx; exact Array.mem_toList_iff.1 hx))
  have hf' := hr f (by simp [ho, Op.operands, Call.operands, hcal]) _ hf
  have hvs' := opnds_VR (fun x hx => hr x (hmem x hx)) hvs
  simp only [VR] at hf'
  obtain ⟨a', b', e, ha, hb⟩ := hf'
  obtain ⟨⟨fd, hfd, hbody, hname⟩, hcalls⟩ := hC
  have hc2 := hcalls μ g w _ hg s ((ha.append hvs').append hb)
  unfold Oper.wp
  have hrun : (execOp a.eval o).run P w = .ok (.enter fn ⟨a' ++ xs.map a.eval ++ b'⟩) w := by
    have hmap : c.args.map a.eval = ⟨xs.map a.eval⟩ := by rw [← Array.toList_inj]; simp [hargs]
    cases hbd : fd.body with
    | none => simp [hbd] at hbody
    | some bd => simp at hname; simp [execOp, ho, resolve, hcal, hmap, Deferred.ofValue, e, invoke, callFunc, hfd, hbd, hname]
  rw [hrun, Oper.upon_enter]
  refine Calls.mono hc2 ?_
  rintro e w' ⟨v, h', v', μ', hR, rfl, hv, hp⟩
  exact hn _ _ _ _ _ hR hv hp

theorem opsW_ok {ops : Array Oper} {Q : Tm → AH → Prop} {Q' : Exit → Act → World → Prop} : ∀ (l : List Oper) (al : List AOper) (k : Nat), (∀ j o, l[j]? = some o → ops[k + j]? = some o) → compOps P ops l = some al →
    ∀ (tm : Tm) (h : AH) (μ : Mu) (g : G) (w : World) (a : Act), GlobOk μ → St μ g h w → TR μ nt tm a.tmps → OpsW P nt Q al tm h →
    (∀ t' h' a' w' μ', Q t' h' → a'.defers = a.defers → TR μ' nt t' a'.tmps → Post μ g h w h' w' μ' → Q' .normal a' w') → wpOps P ops Q' (List.range' k l.length) a w
  | [], al, k, _, hc, tm, h, μ, g, w, a, hg, s, ht, he, hq => by
    simp only [compOps, Option.some.injEq] at hc
    subst hc
    cases he with
    | nil q =>
      simp only [List.length_nil, List.range'_zero, wpOps]
      exact hq _ _ a w μ q rfl ht (Post.refl s)
  | o :: r, al, k, hl, hc, tm, h, μ, g, w, a, hg, s, ht, he, hq => by
    simp only [compOps] at hc
    split at hc
    · rename_i ao ar h1 h2
      simp only [Option.some.injEq] at hc
      subst hc
      have hok := hl 0 o (by simp)
      simp only [Nat.add_zero] at hok
      have hr : ∀ j o, r[j]? = some o → ops[k + 1 + j]? = some o := fun j o e => by
        have := hl (j + 1) o (by simpa using e)
        rwa [show k + 1 + j = k + (j + 1) by omega]
      simp only [List.length_cons, List.range'_succ]
      rw [wpOps_cons]
      simp only [wpOp, hok]
      have hdst := compOper_dst h1
      cases he with
      | off hgd hset kk =>
        have hw := guard_ok (a := a) h1 (fun t c _ b e => ht.get t b e) hgd
        simp only [hw, Bool.false_eq_true, if_false]
        rw [hdst] at hset
        exact opsW_ok r ar (k + 1) hr h2 _ h μ g w _ hg s (ht.put vr_undef hset) kk fun t' h' a' w' μ' q hd h3 h4 => hq t' h' a' w' μ' q (by rw [hd, put_defers]) h3 h4
      | op hgd hev hset kk =>
        have hw := guard_ok (a := a) h1 (fun t c _ b e => ht.get t b e) hgd
        simp only [hw, if_true]
        left
        rw [hdst] at hset
        rcases compOper_op h1 with hop | ⟨e, hbad⟩
        · refine opwp (a := a) noCall_ok hg hop (ht.or hg) s hev _ _ fun v' w' μ' hv hp => ?_
          exact opsW_ok r ar (k + 1) hr h2 _ _ μ' _ w' _ (hg.mono hp.le) hp.st ((ht.mono hp.le).put hv hset) kk fun t' h' a' w2 μ2 q hd h3 h4 => hq t' h' a' w2 μ2 q (by rw [hd, put_defers]) h3 (hp.trans h4)
        · rw [hbad] at hev
          simp [evOp, kindOf, bad_none] at hev
      | call R hgd ho hf hx hd hcw kk =>
        have hw := guard_ok (a := a) h1 (fun t c _ b e => ht.get t b e) hgd
        simp only [hw, if_true]
        left
        rcases compOper_op h1 with hop | ⟨e, hbad⟩
        · rw [ho] at hop
          refine opwp_callW (a := a) hg hop (ht.or hg) s hf hx hcw fun v h' v' w' μ' hR hv hp => ?_
          refine opsW_ok r ar (k + 1) hr h2 _ _ μ' _ w' _ (hg.mono hp.le) hp.st ((ht.mono hp.le).put hv ?_) (kk v h' hR) fun t' h' a' w2 μ2 q hd h3 h4 => hq t' h' a' w2 μ2 q (by rw [hd, put_defers]) h3 (hp.trans h4)
          rw [← hdst]
          cases hdd : ao.dst with
          | none => rfl
          | some d => simp [setT, hd d hdd]
        · rw [hbad] at ho; cases ho
    · cases hc

theorem codeW_region {l : List AOper} {t : Tm} {h : AH} {Q : Ex → Tm → AH → Prop} (k : OpsW P nt (Q .normal) l t h) : CodeW P nt (.region l) t h Q := by
  intro hm c hc μ g w a Q' hg s ht hQ
  obtain ⟨id, ops, rfl, h1⟩ := comp_region hc
  refine wp_region ?_
  have := opsW_ok (Q' := Q') ops.toList l 0 (fun j o e => by simpa using e) h1 t h μ g w a hg s ht k fun t' h' a' w' μ' q => hQ .normal t' h' a' w' μ' q
  rw [List.range_eq_range']
  simpa using this

/-- A function by its body. -/
def packA : List AV → AV
  | [v] => v
  | vs => .tup vs
def funW (P : Program) (af : AFun) (args : List AV) (h : AH) (Q : AV → AH → Prop) : Prop :=
  args.length ≤ af.ntmps ∧ CodeW P af.ntmps af.body (argsTm 0 args .leaf) h fun e t h' => (∀ id, e ≠ .exit id) ∧ ∃ vs, resA t h' af.res = some vs ∧ Q (packA vs) h'

theorem callW_of_fun (hm : P.follows .mixedOrders = true) {f : Nat} {fn : Func} {af : AFun} (hf : P.funcs[f]? = some fn) (hcf : compFun P fn = some af) (hn : (fn.name == "runtime.NumGoroutine") = false)
    {args : List AV} {h : AH} {Q : AV → AH → Prop} (he : funW P af args h Q) : CallW P f args h Q := by
  simp only [compFun, bind, Option.bind_eq_some_iff, pure, Option.some.injEq] at hcf
  obtain ⟨b, hb, rs, hrs, rfl⟩ := hcf
  obtain ⟨hlen, he⟩ := he
  change args.length ≤ fn.ntmps at hlen
  refine ⟨⟨fn, hf, by simp [hb], hn⟩, fun μ g w cargs hg s hargs => ?_⟩
  refine calls_of_wp hf hb ?_
  have hclen := hargs.length
  have ht : TR μ fn.ntmps (argsTm 0 args .leaf) ((⟨cargs⟩ : Array Value) ++ Array.replicate (fn.ntmps - (⟨cargs⟩ : Array Value).size) undef) := by
    refine ⟨by simp [hclen]; omega, fun t a e => ?_⟩
    rw [argsTm_get] at e
    split at e
    · rename_i hin
      simp only [Nat.sub_zero] at e
      obtain ⟨u, h1, h2⟩ := hargs.get t a e
      refine ⟨u, ?_, h2⟩
      rw [Array.getElem?_append_left (by simp [hclen]; omega)]
      simpa using h1
    · rw [Tr.get_leaf] at e; cases e
  refine he hm b rfl μ g w _ _ hg s ht fun ex tm' h1 a' w' μ' ⟨hex, vs, hra, hQ⟩ hd htr hp => ?_
  obtain ⟨us, h2, h3⟩ := res_ok hp.st htr fn.results.toList rs vs hrs hra
  have hlen2 := h2.length
  have hfin : a'.defers = [] ∧ ∃ u, (results fn a'.tmps).run P w' = .ok u w' ∧ ∃ v h' v' μ'', Q v h' ∧ Ending.returned u = .returned v' ∧ VR μ'' v v' ∧ Post μ g h w h' w' μ'' := by
    refine ⟨hd, if h : (⟨us⟩ : Array Value).size = 1 then (⟨us⟩ : Array Value)[0] else .tuple ⟨us⟩, ?_, ?_⟩
    · change (do let vs ← fn.results.mapM (resF a'.tmps); pure (if h : vs.size = 1 then vs[0] else .tuple vs) : Sem Value).run P w' = _
      have htl : fn.results = fn.results.toList.toArray := by simp
      rw [htl, List.mapM_toArray]
      simp only [map_eq_pure_bind, Sem.run_bind, Sem.run_pure, Result.andThen_ok, h3]
    · refine ⟨packA vs, h1, _, μ', hQ, rfl, ?_, hp⟩
      match vs, us, hlen2, h2 with
      | [x], [u], _, h2 =>
        simp only [VRs] at h2
        obtain ⟨u', r', e, hx, _⟩ := h2
        cases e
        simpa [packA] using hx
      | [], [], _, h2 => exact ⟨[], by simp, h2⟩
      | x :: y :: r, u :: u2 :: ur, _, h2 => exact ⟨u :: u2 :: ur, by simp, h2⟩
  cases ex with
  | normal => exact hfin
  | ret => exact hfin
  | exit id => exact absurd rfl (hex id)
end
end Go.AM
end
