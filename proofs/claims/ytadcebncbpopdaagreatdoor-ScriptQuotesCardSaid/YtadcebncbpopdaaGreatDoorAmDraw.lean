/-
  AmDraw: a part of the abstract machine that stands for runs of the program in the model: no statement of the seat is in it.
-/
import Derived.Test.YtadcebncbpopdaaGreatDoorAmTm
set_option linter.unusedSimpArgs false
noncomputable section
namespace Go.AM
/-! ## Drawn regions: the text's own run, spelled out -/

mutual
theorem AV.beq_eq : ∀ (a b : AV), AV.beq a b = true → a = b
  | .bool a, b, h => by cases b <;> simp only [AV.beq] at h <;> first | (cases h; done) | (simp at h; simp [h])
  | .int k a, b, h => by cases b <;> simp only [AV.beq] at h <;> first | (cases h; done) | (simp at h; simp [h])
  | .str a, b, h => by cases b <;> simp only [AV.beq] at h <;> first | (cases h; done) | (simp at h; simp [h])
  | .ptr i o, b, h => by cases b <;> simp only [AV.beq] at h <;> first | (cases h; done) | (simp at h; simp [h])
  | .nilp, b, h => by cases b <;> simp only [AV.beq] at h <;> first | (cases h; done) | rfl
  | .sl i o n c x e, b, h => by cases b <;> simp only [AV.beq] at h <;> first | (cases h; done) | (simp at h; simp [h])
  | .nils, b, h => by cases b <;> simp only [AV.beq] at h <;> first | (cases h; done) | rfl
  | .map i, b, h => by cases b <;> simp only [AV.beq] at h <;> first | (cases h; done) | (simp at h; simp [h])
  | .nilm, b, h => by cases b <;> simp only [AV.beq] at h <;> first | (cases h; done) | rfl
  | .fn f a c, b, h => by
    cases b <;> simp only [AV.beq] at h <;> first | (cases h; done) | skip
    simp only [Bool.and_eq_true, beq_iff_eq] at h
    obtain ⟨⟨h1, h2⟩, h3⟩ := h
    rw [h1, AV.beqs_eq _ _ h2, AV.beqs_eq _ _ h3]
  | .nilf, b, h => by cases b <;> simp only [AV.beq] at h <;> first | (cases h; done) | rfl
  | .ifc t v, b, h => by
    cases b <;> simp only [AV.beq] at h <;> first | (cases h; done) | skip
    simp only [Bool.and_eq_true, beq_iff_eq] at h
    rw [h.1, AV.beq_eq _ _ h.2]
  | .nili, b, h => by cases b <;> simp only [AV.beq] at h <;> first | (cases h; done) | rfl
  | .agg a, b, h => by
    cases b <;> simp only [AV.beq] at h <;> first | (cases h; done) | skip
    rw [AV.beqs_eq _ _ h]
  | .tup a, b, h => by
    cases b <;> simp only [AV.beq] at h <;> first | (cases h; done) | skip
    rw [AV.beqs_eq _ _ h]
theorem AV.beqs_eq : ∀ (a b : List AV), AV.beqs a b = true → a = b
  | [], b, h => by cases b <;> simp only [AV.beqs] at h <;> first | (cases h; done) | rfl
  | a :: as, b, h => by
    cases b <;> simp only [AV.beqs] at h <;> first | (cases h; done) | skip
    simp only [Bool.and_eq_true] at h
    rw [AV.beq_eq _ _ h.1, AV.beqs_eq _ _ h.2]
end

theorem sameV_eq {a : Option AV} {b : AV} (h : sameV a b = true) : a = some b := by
  cases a with
  | none => simp [sameV] at h
  | some a => rw [AV.beq_eq _ _ h]

/-- What stands before what. -/
theorem befOk_get {bef : List Nat} : ∀ {l : List Oper} {k : Nat}, befOk bef k l = true → ∀ (j : Nat) (o : Oper), l[j]? = some o →
    (∀ e ∈ o.after.toList, Region.binds .any e = true → e.on < k + j) ∧ bef.getD (k + j) 0 = o.after.toList.foldl (fun s e => if Region.binds .any e then s ||| 2 ^ e.on ||| bef.getD e.on 0 else s) 0
  | [], k, h, j, o, e => by simp at e
  | x :: r, k, h, j, o, e => by
    simp only [befOk, Bool.and_eq_true] at h
    obtain ⟨⟨h1, h2⟩, h3⟩ := h
    cases j with
    | zero =>
      simp at e
      subst e
      refine ⟨fun e he hb => ?_, by simpa using h2⟩
      have := List.all_eq_true.1 h1 e he
      simpa [hb] using this
    | succ j =>
      have := befOk_get h3 j o (by simpa using e)
      rwa [show k + 1 + j = k + (j + 1) by omega] at this

theorem fold_bit {bef : List Nat} {i : Nat} : ∀ (es : List Edge) (s : Nat), (es.foldl (fun s e => if Region.binds .any e then s ||| 2 ^ e.on ||| bef.getD e.on 0 else s) s).testBit i = true →
    s.testBit i = true ∨ ∃ e ∈ es, Region.binds .any e = true ∧ (i = e.on ∨ (bef.getD e.on 0).testBit i = true)
  | [], s, h => .inl h
  | e :: es, s, h => by
    simp only [List.foldl_cons] at h
    rcases fold_bit es _ h with h | ⟨e', he, hb, hx⟩
    · split at h
      · rename_i hb
        simp only [Nat.testBit_or, Bool.or_eq_true, Nat.testBit_two_pow, decide_eq_true_eq] at h
        rcases h with (h | h) | h
        · exact .inl h
        · exact .inr ⟨e, by simp, hb, .inl h.symm⟩
        · exact .inr ⟨e, by simp, hb, .inr h⟩
      · exact .inl h
    · exact .inr ⟨e', by simp [he], hb, hx⟩

/-- Whatever stands before an operation whose edges are listed is listed. -/
theorem bef_listed {ops : Array Oper} {bef : List Nat} (hb : befOk bef 0 ops.toList = true) {L : Nat → Prop} (hL : ∀ j o, L j → ops[j]? = some o → ∀ e ∈ o.after, Region.binds .any e = true → L e.on) :
    ∀ (n j : Nat), j < n → ∀ o, ops[j]? = some o → (∀ e ∈ o.after, Region.binds .any e = true → L e.on) → ∀ i, (bef.getD j 0).testBit i = true → L i
  | 0, j, hj, _, _, _, _, _ => by omega
  | n + 1, j, hj, o, ho, he, i, hi => by
    obtain ⟨h1, h2⟩ := befOk_get hb j o (by simpa using ho)
    simp only [Nat.zero_add] at h1 h2
    rw [h2] at hi
    rcases fold_bit _ _ hi with h | ⟨e, hem, hbd, hx⟩
    · simp at h
    · have hle := he e (by simpa using hem) hbd
      rcases hx with rfl | hx
      · exact hle
      · have hlt := h1 e hem hbd
        cases ho2 : ops[e.on]? with
        | none =>
          exfalso
          have : ops.size ≤ e.on := by simpa using ho2
          have : j < ops.size := (Array.getElem?_eq_some_iff.1 ho).1
          omega
        | some o2 => exact bef_listed hb hL n e.on (by omega) o2 ho2 (hL _ _ hle ho2) i hx

theorem pairsFor_get {bj j : Nat} {y : Look} : ∀ {l : List Look} {i : Nat} {c : List (Nat × Nat)}, pairsFor bj y j i l = some c → ∀ (k : Nat) (x : Look), l[k]? = some x →
    bj.testBit (i + k) = true ∨ (apartT x.dst y.dst x.rd y.rd = true ∧ ¬ (x.kd = .eff ∧ y.kd = .eff) ∧ (x.kd = .eff → y.kd = .read → (j, i + k) ∈ c) ∧ (x.kd = .read → y.kd = .eff → (i + k, j) ∈ c))
  | [], i, c, h, k, x, e => by simp at e
  | z :: r, i, c, h, k, x, e => by
    simp only [pairsFor] at h
    split at h
    · cases h
    · rename_i c' hc'
      have hsub : ∀ p, p ∈ c' → p ∈ c := by
        intro p hp
        split at h
        · simp only [Option.some.injEq] at h; subst h; exact hp
        · split at h
          · cases h
          · split at h <;> first | (cases h; done) | (simp only [Option.some.injEq] at h; subst h; simp [hp])
      cases k with
      | zero =>
        simp at e
        subst e
        simp only [Nat.add_zero]
        split at h
        · rename_i hbit; exact .inl hbit
        · split at h
          · cases h
          · rename_i hap
            refine .inr ⟨by simpa using hap, ?_, ?_, ?_⟩
            · rintro ⟨h1, h2⟩; simp [h1, h2] at h
            · intro h1 h2; simp [h1, h2] at h; subst h; simp
            · intro h1 h2; simp [h1, h2] at h; subst h; simp
      | succ k =>
        have := pairsFor_get hc' k x (by simpa using e)
        rw [show i + 1 + k = i + (k + 1) by omega] at this
        rcases this with h1 | ⟨h1, h2, h3, h4⟩
        · exact .inl h1
        · exact .inr ⟨h1, h2, fun a b => hsub _ (h3 a b), fun a b => hsub _ (h4 a b)⟩

theorem pairsAll_get {bef : List Nat} {all : List Look} : ∀ {l : List Look} {j : Nat} {c : List (Nat × Nat)}, pairsAll bef all j l = some c → ∀ (k : Nat) (y : Look), l[k]? = some y → ∀ (i : Nat) (x : Look), all[i]? = some x → i < j + k →
    (bef.getD (j + k) 0).testBit i = true ∨ (apartT x.dst y.dst x.rd y.rd = true ∧ ¬ (x.kd = .eff ∧ y.kd = .eff) ∧ (x.kd = .eff → y.kd = .read → (j + k, i) ∈ c) ∧ (x.kd = .read → y.kd = .eff → (i, j + k) ∈ c))
  | [], j, c, h, k, y, e, _, _, _, _ => by simp at e
  | z :: r, j, c, h, k, y, e, i, x, hx, hi => by
    simp only [pairsAll] at h
    split at h
    · rename_i a b ha hb
      simp only [Option.some.injEq] at h
      subst h
      cases k with
      | zero =>
        simp at e
        subst e
        simp only [Nat.add_zero] at hi ⊢
        have := pairsFor_get ha i x (by rw [List.getElem?_take, if_pos hi]; exact hx)
        simp only [Nat.zero_add] at this
        rcases this with h1 | ⟨h1, h2, h3, h4⟩
        · exact .inl h1
        · exact .inr ⟨h1, h2, fun p q => List.mem_append_left _ (h3 p q), fun p q => List.mem_append_left _ (h4 p q)⟩
      | succ k =>
        have := pairsAll_get hb k y (by simpa using e) i x hx (by omega)
        rw [show j + 1 + k = j + (k + 1) by omega] at this
        rcases this with h1 | ⟨h1, h2, h3, h4⟩
        · exact .inl h1
        · exact .inr ⟨h1, h2, fun p q => List.mem_append_right _ (h3 p q), fun p q => List.mem_append_right _ (h4 p q)⟩
    · cases h

theorem looks_get : ∀ {ol : List Oper} {al : List AOper} (j : Nat) (o : Oper) (a : AOper), ol[j]? = some o → al[j]? = some a → (looks ol al)[j]? = some ⟨a.dst, reads o a.guard, kindOf a.op⟩
  | [], al, j, o, a, h, k => by simp at h
  | x :: r, [], j, o, a, h, k => by simp at k
  | x :: r, y :: s, j, o, a, h, k => by
    simp only [looks]
    cases j with
    | zero => simp at h k; subst h; subst k; rfl
    | succ j => simpa using looks_get j o a (by simpa using h) (by simpa using k)

theorem apartT_spec {x y : Option Nat} {rx ry : List Nat} (h : apartT x y rx ry = true) : (∀ d, x = some d → d ∉ ry) ∧ (∀ d, x = some d → y ≠ some d) ∧ (∀ d, y = some d → d ∉ rx) := by
  unfold apartT at h
  rw [Bool.and_eq_true] at h
  obtain ⟨h1, h2⟩ := h
  refine ⟨fun d e => ?_, fun d e => ?_, fun d e => ?_⟩
  · subst e
    dsimp only at h1
    rw [Bool.and_eq_true] at h1
    simpa using h1.1
  · subst e
    dsimp only at h1
    rw [Bool.and_eq_true] at h1
    simpa using h1.2
  · subst e; simpa using h2

theorem stable_get {steps : List Step} : ∀ {l : List (Nat × Nat)}, stable steps l = true → ∀ r e, (r, e) ∈ l → ∃ sr se, steps[r]? = some sr ∧ steps[e]? = some se ∧ (sr.on = true → se.on = true → evRead sr.tm se.h sr.op = some sr.v ∧ evRead sr.tm se.h' sr.op = some sr.v)
  | [], h, r, e, hm => by simp at hm
  | (r', e') :: l, h, r, e, hm => by
    simp only [stable, Bool.and_eq_true] at h
    rcases List.mem_cons.1 hm with hm | hm
    · simp only [Prod.mk.injEq] at hm
      obtain ⟨rfl, rfl⟩ := hm
      have h1 := h.1
      split at h1
      · rename_i sr se h2 h3
        refine ⟨sr, se, h2, h3, fun a b => ?_⟩
        rw [a, b, if_pos ⟨rfl, rfl⟩, Bool.and_eq_true] at h1
        exact ⟨sameV_eq h1.1, sameV_eq h1.2⟩
      · cases h1
    · exact stable_get h.2 r e hm

/-- The text's own run. -/
structure Txt (callH : CallH) (nt base : Nat) (al : List AOper) (steps : List Step) (hs : Nat → AH) (tms : Nat → Tm) (vs : Nat → AV) (ons : Nat → Bool) : Prop where
  all : ∀ j ao, al[j]? = some ao → guardOk (tms j) ao.guard = some (ons j) ∧ setT nt (tms j) ao.dst (vs j) = some (tms (j + 1)) ∧
    (ons j = false → hs (j + 1) = hs j ∧ vs j = .tup []) ∧ (ons j = true → evAt callH (base + j) (tms j) (hs j) ao.op = some (vs j, hs (j + 1))) ∧
    steps[j]? = some ⟨ons j, tms j, hs j, hs (j + 1), ao.op, vs j⟩

theorem txt_of {callH : CallH} {nt base : Nat} : ∀ (al : List AOper) (k : Nat) (tm : Tm) (h : AH) {steps : List Step} {tm' : Tm} {h' : AH}, evDraw callH nt base k al tm h = some (steps, tm', h') →
    ∃ hs tms vs ons, hs 0 = h ∧ hs al.length = h' ∧ tms 0 = tm ∧ tms al.length = tm' ∧ Txt callH nt (base + k) al steps hs tms vs ons
  | [], k, tm, h, steps, tm', h', e => by
    simp only [evDraw, evDrawB, Option.some.injEq, Prod.mk.injEq] at e
    obtain ⟨rfl, rfl, rfl⟩ := e
    exact ⟨fun _ => h, fun _ => tm, fun _ => .nilp, fun _ => true, rfl, rfl, rfl, rfl, ⟨fun j ao e => by simp at e⟩⟩
  | o :: r, k, tm, h, steps, tm', h', e => by
    simp only [evDraw, evDrawB] at e
    split at e
    · cases e
    · rename_i hgd
      split at e
      · rename_i tm1 hset
        split at e
        · rename_i l tm2 h2 hrec
          simp only [Option.some.injEq, Prod.mk.injEq] at e
          obtain ⟨rfl, rfl, rfl⟩ := e
          obtain ⟨hs, tms, vs, ons, a1, a2, a3, a4, a5⟩ := txt_of r (k + 1) tm1 h hrec
          refine ⟨fun | 0 => h | j + 1 => hs j, fun | 0 => tm | j + 1 => tms j, fun | 0 => .tup [] | j + 1 => vs j, fun | 0 => false | j + 1 => ons j, rfl, by simpa using a2, rfl, by simpa using a4, ⟨fun j ao e => ?_⟩⟩
          cases j with
          | zero =>
            simp at e
            subst e
            exact ⟨hgd, by simpa [a3] using hset, fun _ => ⟨a1, rfl⟩, fun h => (by cases h), by simp [a1]⟩
          | succ j =>
            have := a5.all j ao (by simpa using e)
            rw [show base + (k + 1) + j = base + k + (j + 1) by omega] at this
            simpa using this
        · cases e
      · cases e
    · rename_i hgd
      split at e
      · cases e
      · rename_i v h1 hev
        split at e
        · rename_i tm1 hset
          split at e
          · rename_i l tm2 h2 hrec
            simp only [Option.some.injEq, Prod.mk.injEq] at e
            obtain ⟨rfl, rfl, rfl⟩ := e
            obtain ⟨hs, tms, vs, ons, a1, a2, a3, a4, a5⟩ := txt_of r (k + 1) tm1 h1 hrec
            refine ⟨fun | 0 => h | j + 1 => hs j, fun | 0 => tm | j + 1 => tms j, fun | 0 => v | j + 1 => vs j, fun | 0 => true | j + 1 => ons j, rfl, by simpa using a2, rfl, by simpa using a4, ⟨fun j ao e => ?_⟩⟩
            cases j with
            | zero =>
              simp at e
              subst e
              exact ⟨hgd, by simpa [a3] using hset, fun h => (by cases h), fun _ => (by simpa [a1] using hev), by simp [a1]⟩
            | succ j =>
              have := a5.all j ao (by simpa using e)
              rw [show base + (k + 1) + j = base + k + (j + 1) by omega] at this
              simpa using this
          · cases e
        · cases e
end Go.AM
end
