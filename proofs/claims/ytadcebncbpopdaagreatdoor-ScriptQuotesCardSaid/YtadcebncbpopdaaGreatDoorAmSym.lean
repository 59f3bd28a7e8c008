/-
  AmSym: a part of the abstract machine that stands for runs of the program in the model: no statement of the seat is in it.
-/
import Derived.Test.YtadcebncbpopdaaGreatDoorAmFrame
set_option linter.unusedSimpArgs false
noncomputable section
namespace Go.AM
/-! ## Runs in letters by rewriting: a region's operations are a proposition that unfolds -/
section
variable {P : Program} {nt : Nat}

/-- Numbers that are passed over. -/
def AH.skip (h : AH) (d : Nat) : AH := ⟨h.next + d, h.m⟩
@[simp] theorem AH.get_skip (h : AH) (d j : Nat) : (h.skip d).get j = h.get j := rfl
@[simp] theorem AH.next_skip (h : AH) (d : Nat) : (h.skip d).next = h.next + d := rfl

def dstOk (nt : Nat) : Option Nat → Bool
  | none => true
  | some d => decide (d < nt)

mutual
/-- What must hold ahead of a region's operations, so that Q holds behind them. -/
def wpO (P : Program) (nt : Nat) (Q : Tm → AH → Prop) : List AOper → Tm → AH → Prop
  | [], t, h => Q t h
  | o :: r, t, h => match guardOk t o.guard with
    | none => False
    | some false => match setT nt t o.dst (.tup []) with
      | some t' => wpO P nt Q r t' h
      | none => False
    | some true => match o.op with
      | .call f xs => match opnd t f, opnds t xs with
        | some (.fn k a b), some vs => match dstOk nt o.dst with
          | true => callThen P nt Q k (a ++ vs ++ b) o.dst r t h
          | false => False
        | _, _ => False
      | op => match evOp noCall t h op with
        | some (v, h') => match setT nt t o.dst v with
          | some t' => wpO P nt Q r t' h'
          | none => False
        | none => False
/-- A call, then the rest. -/
def callThen (P : Program) (nt : Nat) (Q : Tm → AH → Prop) (k : Nat) (args : List AV) (dst : Option Nat) (r : List AOper) (t : Tm) (h : AH) : Prop :=
  ∃ R : AV → AH → Prop, CallW P k args h R ∧ ∀ v h', R v h' → match setT nt t dst v with
    | some t' => wpO P nt Q r t' h'
    | none => False
end

theorem callThen_intro {Q : Tm → AH → Prop} {k : Nat} {args : List AV} {dst : Option Nat} {r : List AOper} {t : Tm} {h : AH} {R : AV → AH → Prop} (hc : CallW P k args h R)
    (hr : ∀ v h', R v h' → match setT nt t dst v with | some t' => wpO P nt Q r t' h' | none => False) : callThen P nt Q k args dst r t h := by
  unfold callThen
  exact ⟨R, hc, hr⟩
theorem callThen_R {Q : Tm → AH → Prop} {k : Nat} {args : List AV} {dst : Option Nat} {r : List AOper} {t : Tm} {h h' : AH} {v : AV} (hc : CallR P k args h v h')
    (hr : match setT nt t dst v with | some t' => wpO P nt Q r t' h' | none => False) : callThen P nt Q k args dst r t h :=
  callThen_intro hc fun x k e => by obtain ⟨rfl, rfl⟩ := e; exact hr

theorem opsW_of {Q : Tm → AH → Prop} : ∀ (l : List AOper) (t : Tm) (h : AH), wpO P nt Q l t h → OpsW P nt Q l t h
  | [], t, h, w => by unfold wpO at w; exact .nil w
  | o :: r, t, h, w => by
    unfold wpO at w
    split at w
    · exact w.elim
    · rename_i hg
      split at w
      · rename_i t' ht
        exact .off hg ht (opsW_of r t' h w)
      · exact w.elim
    · rename_i hg
      split at w
      · rename_i f xs ho
        split at w
        · rename_i k a b vs hf hx
          split at w
          · rename_i hdst
            unfold callThen at w
            obtain ⟨R, hc, hr⟩ := w
            have hd : ∀ d, o.dst = some d → d < nt := fun d e => by
              rw [e] at hdst
              simpa [dstOk] using hdst
            refine .call R hg ho hf hx hd hc fun v h' hR => ?_
            have := hr v h' hR
            cases e : o.dst with
            | none => simp only [e, setT] at this ⊢; exact opsW_of r _ h' this
            | some d =>
              have hlt := hd d e
              simp only [e, setT, hlt, if_true] at this ⊢
              exact opsW_of r _ h' this
          · exact w.elim
        · exact w.elim
      · rename_i ho
        split at w
        · rename_i v h' he
          split at w
          · rename_i t' ht
            exact .op hg he ht (opsW_of r t' h' w)
          · exact w.elim
        · exact w.elim

theorem codeW_reg {l : List AOper} {t : Tm} {h : AH} {Q : Ex → Tm → AH → Prop} (k : wpO P nt (Q .normal) l t h) : CodeW P nt (.region l) t h Q := codeW_region (opsW_of l t h k)

/-- Function f is this one, compiled. -/
def FunIs (P : Program) (f : Nat) (a : AFun) : Prop := ∃ fn, P.funcs[f]? = some fn ∧ compFun P fn = some a ∧ (fn.name == "runtime.NumGoroutine") = false
theorem callW_fun (hm : P.follows .mixedOrders = true) {f : Nat} {a : AFun} (hf : FunIs P f a) {args : List AV} {h : AH} {Q : AV → AH → Prop} (hl : args.length ≤ a.ntmps)
    (he : CodeW P a.ntmps a.body (argsTm 0 args .leaf) h fun e t h' => (∀ id, e ≠ .exit id) ∧ ∃ vs, resA t h' a.res = some vs ∧ Q (packA vs) h') : CallW P f args h Q := by
  obtain ⟨fn, h1, h2, h3⟩ := hf
  exact callW_of_fun hm h1 h2 h3 ⟨hl, he⟩

/-- A region first, then code. -/
theorem codeW_rs {l : List AOper} {y : ACode} {t : Tm} {h : AH} {Q : Ex → Tm → AH → Prop} (k : wpO P nt (fun t h => CodeW P nt y t h Q) l t h) : CodeW P nt (.seq (.region l) y) t h Q := codeW_seq (codeW_reg k)

/-- A drawn region without a call. -/
theorem codeW_draw {l : List AOper} {conf : List (Nat × Nat)} {t : Tm} {h : AH} {Q : Ex → Tm → AH → Prop}
    (k : match evDraw noCall nt h.next 0 l t (h.skip l.length) with | some (steps, t, h) => stable steps conf = true ∧ Q .normal t h | none => False) : CodeW P nt (.draw l conf) t h Q := by
  refine codeW_det (F := 0) (callH := noCall) noCall_ok ?_
  have es : ({ h with next := h.next + l.length } : AH) = h.skip l.length := rfl
  simp only [Ran, evCode, evCodeB, es]
  split at k
  · rename_i e
    simp only [e, k.1, if_true]
    exact k.2
  · exact k.elim
/-- A drawn region of which no pair needs a look: its operations, one behind the other. -/
def wpD (callH : CallH) (nt base : Nat) (Q : Tm → AH → Prop) : Nat → List AOper → Tm → AH → Prop
  | _, [], t, h => Q t h
  | j, o :: r, t, h => match guardOk t o.guard with
    | none => False
    | some false => match setT nt t o.dst (.tup []) with
      | some t' => wpD callH nt base Q (j + 1) r t' h
      | none => False
    | some true => match evAt callH (base + j) t h o.op with
      | none => False
      | some (v, h') => match setT nt t o.dst v with
        | some t' => wpD callH nt base Q (j + 1) r t' h'
        | none => False
theorem evDraw_of {callH : CallH} {base : Nat} {Q : Tm → AH → Prop} : ∀ (l : List AOper) (j : Nat) (t : Tm) (h : AH), wpD callH nt base Q j l t h → ∃ st t' h', evDraw callH nt base j l t h = some (st, t', h') ∧ Q t' h'
  | [], j, t, h, w => ⟨[], t, h, rfl, w⟩
  | o :: r, j, t, h, w => by
    unfold wpD at w
    simp only [evDraw, evDrawB]
    split at w
    · exact w.elim
    · rename_i hg
      split at w
      · rename_i t' ht
        obtain ⟨st, t2, h2, e, q⟩ := evDraw_of r (j + 1) t' h w
        simp only [evDraw] at e
        exact ⟨⟨false, t, h, h, o.op, .tup []⟩ :: st, t2, h2, by simp only [hg, ht, e], q⟩
      · exact w.elim
    · rename_i hg
      split at w
      · exact w.elim
      · rename_i v h' he
        split at w
        · rename_i t' ht
          obtain ⟨st, t2, h2, e, q⟩ := evDraw_of r (j + 1) t' h' w
          simp only [evDraw] at e
          exact ⟨⟨true, t, h, h', o.op, v⟩ :: st, t2, h2, by simp only [hg, he, ht, e], q⟩
        · exact w.elim
theorem codeW_draw0 {l : List AOper} {t : Tm} {h : AH} {Q : Ex → Tm → AH → Prop} (k : wpD noCall nt h.next (Q .normal) 0 l t (h.skip l.length)) : CodeW P nt (.draw l []) t h Q := by
  obtain ⟨st, t', h', e, q⟩ := evDraw_of l 0 t _ k
  refine codeW_draw ?_
  rw [e]
  exact ⟨rfl, q⟩
/-- A drawn region, with those steps kept that the pairs speak of. -/
def wpS (callH : CallH) (nt base : Nat) (need : List Nat) (Q : List (Nat × Step) → Tm → AH → Prop) : Nat → List AOper → Tm → AH → List (Nat × Step) → Prop
  | _, [], t, h, acc => Q acc t h
  | j, o :: r, t, h, acc => match guardOk t o.guard with
    | none => False
    | some false => match setT nt t o.dst (.tup []) with
      | some t' => wpS callH nt base need Q (j + 1) r t' h (match need.contains j with | true => acc ++ [(j, ⟨false, t, h, h, o.op, .tup []⟩)] | false => acc)
      | none => False
    | some true => match evAt callH (base + j) t h o.op with
      | none => False
      | some (v, h') => match setT nt t o.dst v with
        | some t' => wpS callH nt base need Q (j + 1) r t' h' (match need.contains j with | true => acc ++ [(j, ⟨true, t, h, h', o.op, v⟩)] | false => acc)
        | none => False
def stepOf : List (Nat × Step) → Nat → Option Step
  | [], _ => none
  | (k, s) :: r, i => match Nat.beq k i with | true => some s | false => stepOf r i
def stableL (acc : List (Nat × Step)) : List (Nat × Nat) → Bool
  | [] => true
  | (r, e) :: l => (match stepOf acc r, stepOf acc e with
      | some r, some e => if r.on && e.on then sameV (evRead r.tm e.h r.op) r.v && sameV (evRead r.tm e.h' r.op) r.v else true
      | _, _ => false) && stableL acc l
theorem stepOf_mem : ∀ {acc : List (Nat × Step)} {i : Nat} {s : Step}, stepOf acc i = some s → (i, s) ∈ acc
  | [], _, _, h => by cases h
  | (k, x) :: r, i, s, h => by
    unfold stepOf at h
    split at h
    · rename_i e
      have : k = i := Nat.eq_of_beq_eq_true e
      subst this
      cases h
      exact List.mem_cons_self ..
    · exact List.mem_cons_of_mem _ (stepOf_mem h)
theorem stable_of {acc : List (Nat × Step)} {st : List Step} (hs : ∀ i s, (i, s) ∈ acc → st[i]? = some s) : ∀ (conf : List (Nat × Nat)), stableL acc conf = true → stable st conf = true
  | [], _ => rfl
  | (r, e) :: l, h => by
    simp only [stableL, Bool.and_eq_true] at h
    obtain ⟨h1, h2⟩ := h
    simp only [stable, stable_of hs l h2, Bool.and_true]
    split at h1
    · rename_i x y hx hy
      rw [hs _ _ (stepOf_mem hx), hs _ _ (stepOf_mem hy)]
      simpa using h1
    · cases h1
theorem evDraw_ofS {callH : CallH} {base : Nat} {need : List Nat} {Q : List (Nat × Step) → Tm → AH → Prop} : ∀ (l : List AOper) (j : Nat) (t : Tm) (h : AH) (acc : List (Nat × Step)), wpS callH nt base need Q j l t h acc →
    ∃ st t' h' acc', evDraw callH nt base j l t h = some (st, t', h') ∧ Q (acc ++ acc') t' h' ∧ ∀ i s, (i, s) ∈ acc' → j ≤ i ∧ st[i - j]? = some s
  | [], j, t, h, acc, w => ⟨[], t, h, [], rfl, by rw [List.append_nil]; exact w, fun i s hi => by cases hi⟩
  | o :: r, j, t, h, acc, w => by
    unfold wpS at w
    have step : ∀ (x : Step) (st : List Step) (acc' : List (Nat × Step)), (∀ i s, (i, s) ∈ acc' → j + 1 ≤ i ∧ st[i - (j + 1)]? = some s) →
        ∀ i s, (i, s) ∈ ((match need.contains j with | true => [(j, x)] | false => []) ++ acc') → j ≤ i ∧ (x :: st)[i - j]? = some s := by
      intro x st acc' hacc i s hm
      rcases List.mem_append.1 hm with hm | hm
      · split at hm
        · simp only [List.mem_singleton, Prod.mk.injEq] at hm
          obtain ⟨rfl, rfl⟩ := hm
          simp
        · cases hm
      · obtain ⟨a, b⟩ := hacc i s hm
        refine ⟨by omega, ?_⟩
        rw [show i - j = (i - (j + 1)) + 1 by omega]
        simpa using b
    have app : ∀ (x : Step) (acc' : List (Nat × Step)), (match need.contains j with | true => acc ++ [(j, x)] | false => acc) ++ acc' = acc ++ ((match need.contains j with | true => [(j, x)] | false => []) ++ acc') := by
      intro x acc'
      cases need.contains j <;> simp
    simp only [evDraw, evDrawB]
    split at w
    · exact w.elim
    · rename_i hg
      split at w
      · rename_i t' ht
        obtain ⟨st, t2, h2, acc', e, q, hh⟩ := evDraw_ofS r (j + 1) t' h _ w
        simp only [evDraw] at e
        rw [app] at q
        exact ⟨⟨false, t, h, h, o.op, .tup []⟩ :: st, t2, h2, _, by simp only [hg, ht, e], q, step _ _ _ hh⟩
      · exact w.elim
    · rename_i hg
      split at w
      · exact w.elim
      · rename_i v h' he
        split at w
        · rename_i t' ht
          obtain ⟨st, t2, h2, acc', e, q, hh⟩ := evDraw_ofS r (j + 1) t' h' _ w
          simp only [evDraw] at e
          rw [app] at q
          exact ⟨⟨true, t, h, h', o.op, v⟩ :: st, t2, h2, _, by simp only [hg, he, ht, e], q, step _ _ _ hh⟩
        · exact w.elim
/-- A drawn region with one call that is known, and pairs to be looked at. -/
theorem codeW_drawS {f : Nat} {args : List AV} {k h1 : AH} {v : AV} (c : CallR P f args k v h1) (need : List Nat) {l : List AOper} {conf : List (Nat × Nat)} {t : Tm} {h : AH} {Q : Ex → Tm → AH → Prop}
    (w : wpS (oneCall f args k v h1) nt h.next need (fun acc t h => stableL acc conf = true ∧ Q .normal t h) 0 l t (h.skip l.length) []) : CodeW P nt (.draw l conf) t h Q := by
  obtain ⟨st, t', h', acc, e, ⟨hs, q⟩, hm⟩ := evDraw_ofS l 0 t _ [] w
  refine codeW_det (F := 0) (oneCall_ok c) ?_
  have es : ({ h with next := h.next + l.length } : AH) = h.skip l.length := rfl
  simp only [Ran, evCode, evCodeB, es]
  rw [e]
  have := stable_of (st := st) (fun i s hi => by simpa using (hm i s hi).2) conf hs
  simp only [this, if_true]
  exact q
/-- The same with one call that is known. -/
theorem codeW_draw1 {f : Nat} {args : List AV} {k h1 : AH} {v : AV} (c : CallR P f args k v h1) {l : List AOper} {conf : List (Nat × Nat)} {t : Tm} {h : AH} {Q : Ex → Tm → AH → Prop}
    (k : match evDraw (oneCall f args k v h1) nt h.next 0 l t (h.skip l.length) with | some (steps, t, h) => stable steps conf = true ∧ Q .normal t h | none => False) : CodeW P nt (.draw l conf) t h Q := by
  refine codeW_det (F := 0) (oneCall_ok c) ?_
  have es : ({ h with next := h.next + l.length } : AH) = h.skip l.length := rfl
  simp only [Ran, evCode, evCodeB, es]
  split at k
  · rename_i e
    simp only [e, k.1, if_true]
    exact k.2
  · exact k.elim
end

@[simp] theorem one_bool (b : Bool) : AV.one (.bool b) = true := rfl
@[simp] theorem cells_bool (b : Bool) : AV.cells (.bool b) = [.bool b] := rfl
@[simp] theorem one_int (k : IntKind) (n : Int) : AV.one (.int k n) = true := rfl
@[simp] theorem cells_int (k : IntKind) (n : Int) : AV.cells (.int k n) = [.int k n] := rfl
@[simp] theorem one_str (s : List UInt8) : AV.one (.str s) = true := rfl
@[simp] theorem cells_str (s : List UInt8) : AV.cells (.str s) = [.str s] := rfl
@[simp] theorem one_ptr (i o : Nat) : AV.one (.ptr i o) = true := rfl
@[simp] theorem cells_ptr (i o : Nat) : AV.cells (.ptr i o) = [.ptr i o] := rfl
@[simp] theorem one_nilp  : AV.one (.nilp ) = true := rfl
@[simp] theorem cells_nilp  : AV.cells (.nilp ) = [.nilp ] := rfl
@[simp] theorem one_sl (i o l c : Nat) (x : Bool) (e : Nat) : AV.one (.sl i o l c x e) = true := rfl
@[simp] theorem cells_sl (i o l c : Nat) (x : Bool) (e : Nat) : AV.cells (.sl i o l c x e) = [.sl i o l c x e] := rfl
@[simp] theorem one_nils  : AV.one (.nils ) = true := rfl
@[simp] theorem cells_nils  : AV.cells (.nils ) = [.nils ] := rfl
@[simp] theorem one_map (i : Nat) : AV.one (.map i) = true := rfl
@[simp] theorem cells_map (i : Nat) : AV.cells (.map i) = [.map i] := rfl
@[simp] theorem one_nilm  : AV.one (.nilm ) = true := rfl
@[simp] theorem cells_nilm  : AV.cells (.nilm ) = [.nilm ] := rfl
@[simp] theorem one_fn (f : Nat) (a b : List AV) : AV.one (.fn f a b) = true := rfl
@[simp] theorem cells_fn (f : Nat) (a b : List AV) : AV.cells (.fn f a b) = [.fn f a b] := rfl
@[simp] theorem one_nilf  : AV.one (.nilf ) = true := rfl
@[simp] theorem cells_nilf  : AV.cells (.nilf ) = [.nilf ] := rfl
@[simp] theorem one_ifc (t : Nat) (v : AV) : AV.one (.ifc t v) = true := rfl
@[simp] theorem cells_ifc (t : Nat) (v : AV) : AV.cells (.ifc t v) = [.ifc t v] := rfl
@[simp] theorem one_nili  : AV.one (.nili ) = true := rfl
@[simp] theorem cells_nili  : AV.cells (.nili ) = [.nili ] := rfl
@[simp] theorem one_agg (c : List AV) : AV.one (.agg c) = false := rfl
@[simp] theorem cells_agg (c : List AV) : AV.cells (.agg c) = c := rfl
@[simp] theorem one_tup (c : List AV) : AV.one (.tup c) = false := rfl
@[simp] theorem cells_tup (c : List AV) : AV.cells (.tup c) = [.tup c] := rfl
attribute [simp] wpO wpD wpS stepOf stableL evAt dstOk guardOk setT evOp kindOf evPure evPureB evRead evReadB evAlloc evAllocB evEff evEffB opnd opnds optOpnd avWhole avOf avsOf cx binA arithA cmpA unA eqvA partVals fillA paste cut AB.cs loadA readCells writeCells boundA partOf Tr.get_put Tr.get_leaf AH.get_set AH.get_new AH.get_del AH.next_set AH.next_new AH.next_del argsTm resA packA
end Go.AM
end
