/-
  AmCode: a part of the abstract machine that stands for runs of the program in the model: no statement of the seat is in it.
-/
import Derived.Test.YtadcebncbpopdaaGreatDoorAmDraw5
import Derived.LoopN
set_option linter.unusedSimpArgs false
noncomputable section
namespace Go.AM
/-! ## Code, functions, calls -/

def toExit : Ex → Exit
  | .normal => .normal
  | .exit id => .exit id
  | .ret => .ret

section
variable {P : Program} {callH : CallH} {F nt : Nat}

theorem code_ok (hC : CallOk P callH) (hm : P.follows .mixedOrders = true) : ∀ (c : Code) {tm tm' : Tm} {h h' : AH} {ex : Ex} {μ : Mu} {g : G} {w : World} {a : Act} {Q : Exit → Act → World → Prop},
    evCode F callH nt (compCode P c) tm h = some (ex, tm', h') → GlobOk μ → St μ g h w → TR μ nt tm a.tmps →
    (∀ a' w' μ', a'.defers = a.defers → TR μ' nt tm' a'.tmps → Post μ g h w h' w' μ' → Q (toExit ex) a' w') → c.wp P Q a w := by
  intro c
  induction c with
  | skip =>
    intro tm tm' h h' ex μ g w a Q he hg s ht hq
    simp only [compCode, evCode, evCodeB, Option.some.injEq, Prod.mk.injEq] at he
    obtain ⟨rfl, rfl, rfl⟩ := he
    exact wp_skip (hq a w μ rfl ht (Post.refl s))
  | exit id =>
    intro tm tm' h h' ex μ g w a Q he hg s ht hq
    simp only [compCode, evCode, evCodeB, Option.some.injEq, Prod.mk.injEq] at he
    obtain ⟨rfl, rfl, rfl⟩ := he
    exact wp_exit (hq a w μ rfl ht (Post.refl s))
  | ret =>
    intro tm tm' h h' ex μ g w a Q he hg s ht hq
    simp only [compCode, evCode, evCodeB, Option.some.injEq, Prod.mk.injEq] at he
    obtain ⟨rfl, rfl, rfl⟩ := he
    exact wp_ret (hq a w μ rfl ht (Post.refl s))
  | region id ops d =>
    intro tm tm' h h' ex μ g w a Q he hg s ht hq
    simp only [compCode] at he
    split at he
    · rename_i al hcomp
      cases d with
      | true =>
        simp only [if_true] at he
        split at he
        · rename_i hb
          split at he
          · rename_i conf hp
            simp only [evCode, evCodeB] at he
            split at he
            · rename_i steps t1 h1 hd
              split at he
              · rename_i hst
                simp only [Option.some.injEq, Prod.mk.injEq] at he
                obtain ⟨rfl, rfl, rfl⟩ := he
                exact draw_ok hC hm hcomp hb hp hd hst hg s ht hq
              · cases he
            · cases he
          · cases he
        · cases he
      | false =>
        simp only [Bool.false_eq_true, if_false, evCode, evCodeB, Option.map_eq_some_iff, Prod.mk.injEq] at he
        obtain ⟨⟨t1, h1⟩, he, rfl, rfl, rfl⟩ := he
        refine wp_region ?_
        have := region_ok (nt := nt) (ops := ops) (Q := Q) hC ops.toList al 0 (fun j o e => by simpa using e) hcomp tm h μ g w a hg s ht he hq
        rw [List.range_eq_range']
        simpa using this
    · cases he
  | seq x y ihx ihy =>
    intro tm tm' h h' ex μ g w a Q he hg s ht hq
    simp only [compCode, evCode, evCodeB] at he
    refine wp_seq ?_
    split at he
    · rename_i t1 h1 hx
      refine ihx hx hg s ht fun a' w' μ' hd htr hp => ?_
      refine ihy he (hg.mono hp.le) hp.st htr fun a2 w2 μ2 hd2 htr2 hp2 => ?_
      exact hq a2 w2 μ2 (hd2.trans hd) htr2 (hp.trans hp2)
    · rename_i hnn
      refine ihx he hg s ht fun a' w' μ' hd htr hp => ?_
      have := hq a' w' μ' hd htr hp
      cases ex with
      | normal => exact absurd he (hnn tm' h')
      | exit id => exact this
      | ret => exact this
  | cond o x y ihx ihy =>
    intro tm tm' h h' ex μ g w a Q he hg s ht hq
    simp only [compCode, evCode, evCodeB] at he
    split at he
    · rename_i ho
      have := opnd_ok (a := a) hg (fun t _ b e => ht.get t b e) ho
      simp only [VR] at this
      exact wp_cond_true this (ihx he hg s ht hq)
    · rename_i ho
      have := opnd_ok (a := a) hg (fun t _ b e => ht.get t b e) ho
      simp only [VR] at this
      exact wp_cond_false this (ihy he hg s ht hq)
    · cases he
  | block id x ih =>
    intro tm tm' h h' ex μ g w a Q he hg s ht hq
    simp only [compCode, evCode, evCodeB] at he
    refine wp_block ?_
    split at he
    · rename_i j t1 h1 hx
      split at he
      · rename_i hj
        simp only [Option.some.injEq, Prod.mk.injEq] at he
        obtain ⟨rfl, rfl, rfl⟩ := he
        refine ih hx hg s ht fun a' w' μ' hd htr hp => ?_
        simp only [toExit, Exit.inBlock, hj, if_true]
        exact hq a' w' μ' hd htr hp
      · rename_i hj
        simp only [Option.some.injEq, Prod.mk.injEq] at he
        obtain ⟨rfl, rfl, rfl⟩ := he
        refine ih hx hg s ht fun a' w' μ' hd htr hp => ?_
        simp only [toExit, Exit.inBlock, hj, if_false]
        exact hq a' w' μ' hd htr hp
    · rename_i hne
      refine ih he hg s ht fun a' w' μ' hd htr hp => ?_
      have := hq a' w' μ' hd htr hp
      cases ex with
      | normal => exact this
      | exit j => exact absurd he (hne j tm' h')
      | ret => exact this
  | loop x ih =>
    intro tm tm' h h' ex μ g w a Q he hg s ht hq
    simp only [compCode, evCode, evCodeB] at he
    refine wp_loop_rounds F ?_

    have key : ∀ (n : Nat) (tm : Tm) (h1 : AH) (μ1 : Mu) (w1 : World) (a1 : Act), loopN (evCode F callH nt (compCode P x)) n tm h1 = some (ex, tm', h') → GlobOk μ1 → ∀ g1, St μ1 g1 h1 w1 → TR μ1 nt tm a1.tmps →
        (∀ a' w' μ', a'.defers = a1.defers → TR μ' nt tm' a'.tmps → Post μ1 g1 h1 w1 h' w' μ' → Q (toExit ex) a' w') → Code.rounds P x Q n a1 w1 := by
      intro n
      induction n with
      | zero => intro tm h1 μ1 w1 a1 e; cases e
      | succ n ihn =>
        intro tm h1 μ1 w1 a1 e hg1 g1 s1 ht1 hq1
        rw [rounds_succ]
        simp only [loopN] at e
        split at e
        · rename_i t2 h2 hx
          refine ih hx hg1 s1 ht1 fun a' w' μ' hd htr hp => ?_
          refine ihn t2 h2 μ' w' a' e (hg1.mono hp.le) _ hp.st htr fun a2 w2 μ2 hd2 htr2 hp2 => ?_
          exact hq1 a2 w2 μ2 (hd2.trans hd) htr2 (hp.trans hp2)
        · rename_i hnn
          refine ih e hg1 s1 ht1 fun a' w' μ' hd htr hp => ?_
          have := hq1 a' w' μ' hd htr hp
          cases ex with
          | normal => exact absurd e (hnn tm' h')
          | exit id => exact this
          | ret => exact this
    exact key F tm h μ w a he hg g s ht hq
  | _ =>
    intro tm tm' h h' ex μ g w a Q he
    simp only [compCode, evCode, evCodeB] at he
    cases he

theorem loadVar_ok {t : TypeId} {n : Nat} {gg : Bool} (hn : sizeQ P t = some n) (hg : aggQ P t = some gg) {μ : Mu} {g : G} {h : AH} {w : World} (s : St μ g h w) {p v : AV} {pv : Value} (hp : VR μ p pv) (he : loadA h n gg p = some v) :
    ∃ ad v', pv = .pointer (some ad) ∧ (loadVar t ad).run P w = .ok v' w ∧ VR μ v v' := by
  cases p <;> simp only [loadA] at he <;> try (cases he; done)
  rename_i i off
  simp only [VR] at hp
  obtain ⟨m, hm, e⟩ := hp
  split at he
  · rename_i cs hcs
    obtain ⟨_, vs, hlen, hvr, hcell, hload⟩ := readCells_ok s hcs hm
    cases gg
    · simp only [Bool.false_eq_true, if_false] at he hlen hload
      obtain ⟨v1, rfl⟩ : ∃ v1, vs = [v1] := by
        match vs, hlen with
        | [v1], _ => exact ⟨v1, rfl⟩
      cases cs with
      | nil => cases he
      | cons a r =>
        simp only [List.head?_cons, Option.some.injEq] at he
        subst he
        simp only [VRs] at hvr
        obtain ⟨v2, r2, e2, hv2, _⟩ := hvr
        cases e2
        have := hcell 0 v1 (by simp)
        simp only [Nat.add_zero] at this
        exact ⟨_, v1, e, by simp [loadVar, r_isAgg hg, this], hv2⟩
    · simp only [if_true, Option.some.injEq] at he hload
      subst he
      exact ⟨_, .agg ⟨vs⟩, e, by simp [loadVar, r_isAgg hg, r_size hn, hload], ⟨vs, rfl, hvr⟩⟩
  · cases he

def resF (tmps : Array Value) : ResultVar → Sem Value
  | .tmp t => pure (tmps.getD t undef)
  | .cell a t => do loadVar t (← asAddr (tmps.getD a undef))

theorem res_ok {tm : Tm} {μ : Mu} {g : G} {h : AH} {w : World} {tmps : Array Value} (s : St μ g h w) (ht : TR μ nt tm tmps) : ∀ (l : List ResultVar) (rs : List ARes) (vs : List AV), compRes P l = some rs → resA tm h rs = some vs →
    ∃ us, VRs μ vs us ∧ (l.mapM (resF tmps)).run P w = .ok us w
  | [], rs, vs, hc, he => by
    simp only [compRes, Option.some.injEq] at hc
    subst hc
    simp only [resA, Option.some.injEq] at he
    subst he
    exact ⟨[], rfl, by simp⟩
  | .tmp t :: r, rs, vs, hc, he => by
    simp only [compRes, Option.map_eq_some_iff] at hc
    obtain ⟨rs', hc, rfl⟩ := hc
    simp only [resA] at he
    split at he
    · rename_i v vs' hv hvs
      simp only [Option.some.injEq] at he
      subst he
      obtain ⟨us, h1, h2⟩ := res_ok s ht r rs' vs' hc hvs
      obtain ⟨u, h3, h4⟩ := ht.get t v hv
      refine ⟨u :: us, ⟨u, us, rfl, h4, h1⟩, ?_⟩
      have hD : tmps.getD t undef = u := by simp [Array.getD_eq_getD_getElem?, h3]
      simp only [List.mapM_cons, resF, Sem.run_bind, Sem.run_pure, Result.andThen_ok, hD, h2]
    · cases he
  | .cell t e :: r, rs, vs, hc, he => by
    simp only [compRes, bind, Option.bind_eq_some_iff, pure, Option.some.injEq] at hc
    obtain ⟨n, hn, gg, hg, rs', hc, rfl⟩ := hc
    simp only [resA] at he
    split at he
    · rename_i v vs' hv hvs
      simp only [Option.some.injEq] at he
      subst he
      obtain ⟨us, h1, h2⟩ := res_ok s ht r rs' vs' hc hvs
      simp only [Option.bind_eq_some_iff] at hv
      obtain ⟨p, hp, hv⟩ := hv
      obtain ⟨u, h3, h4⟩ := ht.get t p hp
      obtain ⟨ad, v', rfl, h5, h6⟩ := loadVar_ok hn hg s h4 hv
      refine ⟨v' :: us, ⟨v', us, rfl, h6, h1⟩, ?_⟩
      have hD : tmps.getD t undef = .pointer (some ad) := by simp [Array.getD_eq_getD_getElem?, h3]
      have hA : (asAddr (.pointer (some ad))).run P w = .ok ad w := by simp [asAddr]
      simp only [List.mapM_cons, resF, Sem.run_bind, Sem.run_pure, Result.andThen_ok, hD, hA, h5, h2]
    · cases he

theorem argsTm_get : ∀ (args : List AV) (i : Nat) (t : Tm) (k : Nat), (argsTm i args t).get k = if i ≤ k ∧ k < i + args.length then args[k - i]? else t.get k
  | [], i, t, k => by simp only [argsTm, List.length_nil]; rw [if_neg (by omega)]
  | v :: vs, i, t, k => by
    simp only [argsTm]
    rw [argsTm_get vs (i + 1) _ k, Tr.get_put]
    simp only [List.length_cons]
    by_cases e : k = i
    · subst e
      rw [if_neg (by omega), if_pos rfl, if_pos (by omega)]
      simp
    · by_cases e2 : i + 1 ≤ k ∧ k < i + 1 + vs.length
      · rw [if_pos e2, if_pos (by omega), show k - i = (k - (i + 1)) + 1 by omega]
        simp
      · rw [if_neg e2, if_neg e, if_neg (by omega)]

theorem fun_ok (hC : CallOk P callH) (hm : P.follows .mixedOrders = true) {f : Nat} {fn : Func} {af : AFun} (hf : P.funcs[f]? = some fn) (hcf : compFun P fn = some af) {args : List AV} {h h' : AH} {v : AV}
    (he : runFun F callH af args h = some (v, h')) {μ : Mu} {g : G} {w : World} {cargs : List Value} (hg : GlobOk μ) (s : St μ g h w) (hargs : VRs μ args cargs) :
    Calls P f ⟨cargs⟩ w fun e w' => ∃ v' μ', e = .returned v' ∧ VR μ' v v' ∧ Post μ g h w h' w' μ' := by
  simp only [compFun, bind, Option.bind_eq_some_iff, pure, Option.some.injEq] at hcf
  obtain ⟨b, hb, rs, hrs, rfl⟩ := hcf
  simp only [runFun] at he
  split at he
  · rename_i hlen
    refine calls_of_wp hf hb ?_
    have hclen := hargs.length
    have ht : TR μ fn.ntmps (argsTm 0 args .leaf) ((⟨cargs⟩ : Array Value) ++ Array.replicate (fn.ntmps - (⟨cargs⟩ : Array Value).size) undef) := by
      refine ⟨by simp [hclen]; omega, fun t a e => ?_⟩
      rw [argsTm_get] at e
      split at e
      · rename_i hin
        simp only [Nat.sub_zero] at e
        obtain ⟨u, h1, h2⟩ := hargs.get t a e
        refine ⟨u, ?_, h2⟩
        rw [Array.getElem?_append_left (by simp [hclen]; omega)]
        simpa using h1
      · rw [Tr.get_leaf] at e; cases e
    have hend : ∀ (ex : Ex) (tm' : Tm) (h1 : AH), evCode F callH fn.ntmps (compCode P b) (argsTm 0 args .leaf) h = some (ex, tm', h1) → (∀ id, ex ≠ .exit id) →
        (match resA tm' h1 rs with | some [v] => some (v, h1) | some vs => some (.tup vs, h1) | none => none) = some (v, h') →
        b.wp P (bodyPost P fn fun e w' => ∃ v' μ', e = .returned v' ∧ VR μ' v v' ∧ Post μ g h w h' w' μ') { tmps := (⟨cargs⟩ : Array Value) ++ Array.replicate (fn.ntmps - (⟨cargs⟩ : Array Value).size) undef, defers := [] } w := by
      intro ex tm' h1 hcode hex hres
      refine code_ok hC hm b hcode hg s ht fun a' w' μ' hd htr hp => ?_
      have hfin : a'.defers = [] ∧ ∃ u, (results fn a'.tmps).run P w' = .ok u w' ∧ ∃ v' μ'', Ending.returned u = .returned v' ∧ VR μ'' v v' ∧ Post μ g h w h' w' μ'' := by
        refine ⟨hd, ?_⟩
        cases hra : resA tm' h1 rs with
        | none => rw [hra] at hres; cases hres
        | some vs =>
          obtain ⟨us, h2, h3⟩ := res_ok hp.st htr fn.results.toList rs vs hrs hra
          have hlen2 := h2.length
          refine ⟨if h : (⟨us⟩ : Array Value).size = 1 then (⟨us⟩ : Array Value)[0] else .tuple ⟨us⟩, ?_, ?_⟩
          · change (do let vs ← fn.results.mapM (resF a'.tmps); pure (if h : vs.size = 1 then vs[0] else .tuple vs) : Sem Value).run P w' = _
            have htl : fn.results = fn.results.toList.toArray := by simp
            rw [htl, List.mapM_toArray]
            simp only [map_eq_pure_bind, Sem.run_bind, Sem.run_pure, Result.andThen_ok, h3]
          · rw [hra] at hres
            match vs, us, hlen2, h2 with
            | [x], [u], _, h2 =>
              simp only [Option.some.injEq, Prod.mk.injEq] at hres
              obtain ⟨rfl, rfl⟩ := hres
              simp only [VRs] at h2
              obtain ⟨u', r', e, hx, _⟩ := h2
              cases e
              exact ⟨_, μ', rfl, by simpa using hx, hp⟩
            | [], [], _, h2 =>
              simp only [Option.some.injEq, Prod.mk.injEq] at hres
              obtain ⟨rfl, rfl⟩ := hres
              exact ⟨_, μ', rfl, ⟨[], by simp, h2⟩, hp⟩
            | x :: y :: r, u :: u2 :: ur, _, h2 =>
              simp only [Option.some.injEq, Prod.mk.injEq] at hres
              obtain ⟨rfl, rfl⟩ := hres
              exact ⟨_, μ', rfl, ⟨u :: u2 :: ur, by simp, h2⟩, hp⟩
      cases ex with
      | normal => exact hfin
      | ret => exact hfin
      | exit id => exact absurd rfl (hex id)
    split at he
    · cases he
    · rename_i ex tm' h1 hnn hcode
      exact hend ex tm' h1 hcode (fun id e => hnn id e) he
    · cases he
  · cases he

/-- What a stand-in for a function owes. -/
def HookOk (P : Program) (f : Nat) (k : List AV → AH → R) : Prop := ∀ args h v h', k args h = some (v, h') →
  (∃ fn, P.funcs[f]? = some fn ∧ fn.body.isNone = false ∧ (fn.name == "runtime.NumGoroutine") = false) ∧
  ∀ μ g w cargs, GlobOk μ → St μ g h w → VRs μ args cargs → Calls P f ⟨cargs⟩ w fun e w' => ∃ v' μ', e = .returned v' ∧ VR μ' v v' ∧ Post μ g h w h' w' μ'

/-- The table of functions is the program's own. -/
def FunsOk (P : Program) (funs : Nat → Option AFun) : Prop := ∀ f a, funs f = some a → ∃ fn, P.funcs[f]? = some fn ∧ compFun P fn = some a ∧ (fn.name == "runtime.NumGoroutine") = false

theorem acall_ok (hm : P.follows .mixedOrders = true) {hooks : Nat → Option (List AV → AH → R)} {funs : Nat → Option AFun} (hh : ∀ f k, hooks f = some k → HookOk P f k) (hf : FunsOk P funs) : ∀ n, CallOk P (acall F hooks funs n)
  | 0 => fun f args h v h' e => by simp [acall] at e
  | n + 1 => fun f args h v h' e => by
    simp only [acall] at e
    split at e
    · rename_i k hk
      exact hh f k hk args h v h' e
    · split at e
      · rename_i a ha
        obtain ⟨fn, h1, h2, h3⟩ := hf f a ha
        refine ⟨⟨fn, h1, ?_, h3⟩, fun μ g w cargs hg s hargs => fun_ok (acall_ok hm hh hf n) hm h1 h2 e hg s hargs⟩
        simp only [compFun, bind, Option.bind_eq_some_iff] at h2
        obtain ⟨b, hb, _⟩ := h2
        simp [hb]
      · cases e
end
end Go.AM
end
