/-
  AmDraw2: a part of the abstract machine that stands for runs of the program in the model: no statement of the seat is in it.
-/
import Derived.Test.YtadcebncbpopdaaGreatDoorAmDraw
set_option linter.unusedSimpArgs false
set_option linter.unusedSectionVars false
noncomputable section
namespace Go.AM

/-- The block that operation j of a drawn region makes. -/
def blockOf (al : List AOper) (tms : Nat → Tm) (ons : Nat → Bool) (j : Nat) : Option AB :=
  match al[j]? with
  | some ao => if ons j = true then (match kindOf ao.op with
    | .alloc => (evAlloc (tms j) ao.op).map (·.1)
    | _ => none) else none
  | none => none

def isEff (al : List AOper) (ons : Nat → Bool) (j : Nat) : Prop := ∃ ao, al[j]? = some ao ∧ kindOf ao.op = .eff ∧ ons j = true

/-- What a drawn region's proof stands on. -/
structure DC (P : Program) (callH : CallH) (nt base n : Nat) (bef : List Nat) (conf : List (Nat × Nat)) (ops : Array Oper) (al : List AOper) (steps : List Step)
    (hs : Nat → AH) (tms : Nat → Tm) (vs : Nat → AV) (ons : Nat → Bool) (μ0 : Mu) (g0 : G) (h0 : AH) (w0 : World) (tm0 : Tm) : Prop where
  call : CallOk P callH
  comp : compOps P ops ops.toList = some al
  befok : befOk bef 0 ops.toList = true
  pairs : pairsAll bef (looks ops.toList al) 0 (looks ops.toList al) = some conf
  stab : stable steps conf = true
  txt : Txt callH nt base al steps hs tms vs ons
  hs0 : hs 0 = { h0 with next := h0.next + n }
  hbase : base = h0.next
  hn : n = ops.size
  htm0 : tms 0 = tm0
  st0 : St μ0 g0 h0 w0

section
variable {P : Program} {callH : CallH} {nt base n : Nat} {bef : List Nat} {conf : List (Nat × Nat)} {ops : Array Oper} {al : List AOper} {steps : List Step}
  {hs : Nat → AH} {tms : Nat → Tm} {vs : Nat → AV} {ons : Nat → Bool} {μ0 : Mu} {g0 : G} {h0 : AH} {w0 : World} {tm0 : Tm}
  (D : DC P callH nt base n bef conf ops al steps hs tms vs ons μ0 g0 h0 w0 tm0)
include D

theorem DC.len : al.length = n := by rw [(compOps_get D.comp).1, D.hn]; simp

theorem DC.oper {j : Nat} {ao : AOper} (h : al[j]? = some ao) : ∃ o, ops[j]? = some o ∧ compOper P ops o = some ao := by
  have hj : j < al.length := (List.getElem?_eq_some_iff.1 h).1
  rw [D.len, D.hn] at hj
  obtain ⟨ao', h1, h2⟩ := (compOps_get D.comp).2 j ops[j] (by simp [hj])
  rw [h] at h1
  cases h1
  exact ⟨ops[j], by simp [hj], h2⟩

theorem DC.aoper {j : Nat} {o : Oper} (h : ops[j]? = some o) : ∃ ao, al[j]? = some ao ∧ compOper P ops o = some ao :=
  (compOps_get D.comp).2 j o (by simpa using h)

/-- Two operations: ordered, or apart. -/
theorem DC.pair {i k : Nat} (hik : i < k) {oi ok : Oper} {ai ak : AOper} (h1 : ops[i]? = some oi) (h2 : ops[k]? = some ok) (h3 : al[i]? = some ai) (h4 : al[k]? = some ak) :
    (bef.getD k 0).testBit i = true ∨ (((∀ d, ai.dst = some d → d ∉ reads ok ak.guard) ∧ (∀ d, ai.dst = some d → ak.dst ≠ some d) ∧ (∀ d, ak.dst = some d → d ∉ reads oi ai.guard)) ∧
      ¬ (kindOf ai.op = .eff ∧ kindOf ak.op = .eff) ∧ (kindOf ai.op = .eff → kindOf ak.op = .read → (k, i) ∈ conf) ∧ (kindOf ai.op = .read → kindOf ak.op = .eff → (i, k) ∈ conf)) := by
  have hi := looks_get (ol := ops.toList) (al := al) i oi ai (by simpa using h1) h3
  have hk := looks_get (ol := ops.toList) (al := al) k ok ak (by simpa using h2) h4
  have := pairsAll_get D.pairs k _ hk i _ hi (by omega)
  simp only [Nat.zero_add] at this
  rcases this with h | ⟨h, r⟩
  · exact .inl h
  · exact .inr ⟨apartT_spec h, r⟩

theorem DC.blk_kind {j : Nat} {b : AB} (h : blockOf al tms ons j = some b) : ∃ ao f, al[j]? = some ao ∧ ons j = true ∧ kindOf ao.op = .alloc ∧ evAlloc (tms j) ao.op = some (b, f) := by
  unfold blockOf at h
  split at h
  · rename_i ao hao
    split at h
    · rename_i hon
      split at h
      · rename_i hk
        simp only [Option.map_eq_some_iff] at h
        obtain ⟨⟨b', f⟩, h1, rfl⟩ := h
        exact ⟨ao, f, hao, hon, hk, h1⟩
      · cases h
    · cases h
  · cases h

theorem DC.blk_lt {j : Nat} {b : AB} (h : blockOf al tms ons j = some b) : j < n := by
  obtain ⟨ao, f, h1, _⟩ := D.blk_kind h
  have := (List.getElem?_eq_some_iff.1 h1).1
  rwa [D.len] at this

/-- A step of the text's run that is no effect. -/
theorem DC.step_quiet {j : Nat} (hj : j < n) (hne : ¬ isEff al ons j) : (hs (j + 1)).next = (hs j).next ∧
    ∀ i, (hs (j + 1)).get i = match (if i = base + j then blockOf al tms ons j else none) with | some b => some b | none => (hs j).get i := by
  have hjl : j < al.length := by rw [D.len]; exact hj
  have hao : al[j]? = some al[j] := by simp
  obtain ⟨_, _, hoff, hon, _⟩ := D.txt.all j _ hao
  cases e : ons j with
  | false =>
    rw [(hoff e).1]
    refine ⟨rfl, fun i => ?_⟩
    have : blockOf al tms ons j = none := by simp [blockOf, hao, e]
    simp [this]
  | true =>
    have hev := hon e
    cases hk : kindOf al[j].op with
    | eff => exact absurd ⟨_, hao, hk, e⟩ hne
    | pure =>
      have hb : blockOf al tms ons j = none := by simp [blockOf, hao, e, hk]
      simp only [evAt, evOp, hk] at hev
      split at hev
      · simp only [Option.some.injEq, Prod.mk.injEq] at hev; rw [← hev.2]; exact ⟨rfl, fun i => by simp [hb]⟩
      · cases hev
    | read =>
      have hb : blockOf al tms ons j = none := by simp [blockOf, hao, e, hk]
      simp only [evAt, evOp, hk] at hev
      split at hev
      · simp only [Option.some.injEq, Prod.mk.injEq] at hev; rw [← hev.2]; exact ⟨rfl, fun i => by simp [hb]⟩
      · cases hev
    | alloc =>
      simp only [evAt, hk] at hev
      split at hev
      · rename_i B f hal
        have hb : blockOf al tms ons j = some B := by simp [blockOf, hao, e, hk, hal]
        simp only [Option.some.injEq, Prod.mk.injEq] at hev
        rw [← hev.2]
        refine ⟨rfl, fun i => ?_⟩
        rw [AH.get_set]
        by_cases hi : i = base + j
        · simp [hi, hb]
        · simp [hi]
      · cases hev

theorem DC.quiet {p : Nat} : ∀ (q : Nat), p ≤ q → q ≤ n → (∀ j, p ≤ j → j < q → ¬ isEff al ons j) → (hs q).next = (hs p).next ∧
    ∀ i, (hs q).get i = match (if base + p ≤ i ∧ i < base + q then blockOf al tms ons (i - base) else none) with | some b => some b | none => (hs p).get i := by
  intro q
  induction q with
  | zero =>
    intro hpq _ _
    have : p = 0 := by omega
    subst this
    refine ⟨rfl, fun i => ?_⟩
    rw [if_neg (by omega)]
  | succ q ih =>
    intro hpq hq hno
    by_cases e : p = q + 1
    · subst e
      refine ⟨rfl, fun i => ?_⟩
      rw [if_neg (by omega)]
    · obtain ⟨h1, h2⟩ := ih (by omega) (by omega) fun j hj hjq => hno j hj (by omega)
      obtain ⟨h3, h4⟩ := D.step_quiet (j := q) (by omega) (hno q (by omega) (by omega))
      refine ⟨h3.trans h1, fun i => ?_⟩
      rw [h4 i, h2 i]
      by_cases hi : i = base + q
      · subst hi
        rw [if_pos rfl, if_neg (by omega), if_pos (by omega), Nat.add_sub_cancel_left]
      · rw [if_neg hi]
        by_cases hin : base + p ≤ i ∧ i < base + q
        · rw [if_pos hin, if_pos (by omega)]
        · rw [if_neg hin, if_neg (by omega)]

/-- The next effect from p on, or the end. -/
theorem DC.next_eff : ∀ (k p : Nat), p + k = n → ∃ q, p ≤ q ∧ q ≤ n ∧ (∀ j, p ≤ j → j < q → ¬ isEff al ons j) ∧ (q = n ∨ isEff al ons q)
  | 0, p, h => ⟨p, Nat.le_refl _, by omega, fun j _ _ => by omega, .inl (by omega)⟩
  | k + 1, p, h => by
    by_cases e : isEff al ons p
    · exact ⟨p, Nat.le_refl _, by omega, fun j _ _ => by omega, .inr e⟩
    · obtain ⟨q, h1, h2, h3, h4⟩ := DC.next_eff k (p + 1) (by omega)
      refine ⟨q, by omega, h2, fun j hj hjq => ?_, h4⟩
      by_cases ej : j = p
      · subst ej; exact e
      · exact h3 j (by omega) hjq

/-- Where the text's slots come from. -/
theorem DC.last (t : Nat) : ∀ (j : Nat), j ≤ n → (∃ j' ao', j' < j ∧ al[j']? = some ao' ∧ ao'.dst = some t ∧ (tms j).get t = some (vs j') ∧ ∀ j'' ao'', j' < j'' → j'' < j → al[j'']? = some ao'' → ao''.dst ≠ some t) ∨
    ((∀ j' ao', j' < j → al[j']? = some ao' → ao'.dst ≠ some t) ∧ (tms j).get t = tm0.get t)
  | 0, _ => .inr ⟨fun j' ao' h => by omega, by rw [D.htm0]⟩
  | j + 1, hj => by
    have hjl : j < al.length := by rw [D.len]; omega
    have hao : al[j]? = some al[j] := by simp
    obtain ⟨_, hset, _⟩ := D.txt.all j _ hao
    have ih := DC.last t j (by omega)
    by_cases ht : al[j].dst = some t
    · refine .inl ⟨j, _, Nat.lt_succ_self _, hao, ht, ?_, fun j'' ao'' h1 h2 => by omega⟩
      rw [ht] at hset
      simp only [setT] at hset
      split at hset
      · simp only [Option.some.injEq] at hset; rw [← hset, Tr.get_put]; simp
      · cases hset
    · have hsame : (tms (j + 1)).get t = (tms j).get t := by
        cases hd : al[j].dst with
        | none => rw [hd] at hset; simp only [setT, Option.some.injEq] at hset; rw [hset]
        | some d =>
          rw [hd] at hset
          simp only [setT] at hset
          split at hset
          · simp only [Option.some.injEq] at hset
            rw [← hset, Tr.get_put, if_neg]
            intro e; subst e; exact ht hd
          · cases hset
      rcases ih with ⟨j', ao', h1, h2, h3, h4, h5⟩ | ⟨h1, h2⟩
      · refine .inl ⟨j', ao', by omega, h2, h3, hsame.trans h4, fun j'' ao'' a b c => ?_⟩
        by_cases e : j'' = j
        · subst e; rw [hao] at c; cases c; exact ht
        · exact h5 j'' ao'' a (by omega) c
      · refine .inr ⟨fun j' ao' a b => ?_, hsame.trans h2⟩
        by_cases e : j' = j
        · subst e; rw [hao] at b; cases b; exact ht
        · exact h1 j' ao' (by omega) b

end
end Go.AM
end
