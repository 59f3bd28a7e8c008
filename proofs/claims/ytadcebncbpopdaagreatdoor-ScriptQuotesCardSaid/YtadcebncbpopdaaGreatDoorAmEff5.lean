/-
  AmEff5: a part of the abstract machine that stands for runs of the program in the model: no statement of the seat is in it.
-/
import Derived.Test.YtadcebncbpopdaaGreatDoorAmEff4
set_option linter.unusedSimpArgs false
noncomputable section
namespace Go.AM
section
variable {P : Program} {o : Oper} {aop : AOp} {tm : Tm} {ρ : Operand → Value} {μ : Mu} {v : AV} {g : G} {h h' : AH} {w w' : World} {callH : CallH}

theorem rest_len (zs : Array Value) (n : Nat) : (Builtin.zeroCells zs n).toList.length = n * zs.size := by
  rw [zeroCells_ok]; simp

theorem app_jp {u : TypeId} {d : TypeDesc} (hd : P.underlying u = some d) (hnint : ∀ k, d ≠ .int k) (F : Bool → Sem Value) :
    (do
      let d ← underlying u
      let zeros ← pure (match d with | .int _ => true | _ => false)
      F zeros : Sem Value).run P w = (F false).run P w := by
  simp only [Sem.run_bind, r_und hd, Result.andThen_ok, Sem.run_pure]

theorem app_jp2 {n : Nat} {x' : Value} (hlen : (Builtin.lenOf x').run P w = .ok n w) (A : Sem Value) (F : Nat → Sem Value) :
    (if (false : Bool) = true then A else do
      let n ← Builtin.lenOf x'
      F n : Sem Value).run P w = (F n).run P w := by
  simp only [Bool.false_eq_true, if_false, Sem.run_bind, hlen, Result.andThen_ok]

/-- The way through append up to the number of elements. -/
theorem app_red {ts : Array TypeId} {ty t u e : TypeId} {d : TypeDesc} {size n : Nat} {a' x' : Value} {base : Option Addr} {l c : Nat} (ht : ts[0]? = some t) (hu : ts[1]? = some u) (hte : P.underlying t = some (.slice e)) (hd : P.underlying u = some d) (hnint : ∀ k, d ≠ .int k)
    (hsz : sizeQ P e = some size) (hlen : (Builtin.lenOf x').run P w = .ok n w) (hA : a' = .slice base l c) :
    (l + n ≤ c → (∀ us w1, (Builtin.firstCells size n x').run P w = .ok ⟨us⟩ w → (∀ ad, base = some ad → (storeCells (ad.add (l * size)) us).run P w = .ok () w1) → (base = none → w1 = w) → (Builtin.append_ ts ty #[a', x']).run P w = .ok (.slice base (l + n) c) w1)) ∧
    (¬ l + n ≤ c → ∀ ti zv old us cap, (∀ w, (typeInfo e).run P w = .ok ti w) → (∀ w, (zeroValue e).run P w = .ok zv w) → ¬ (Builtin.nextslicecap (l + n) c * ti.bytes > 2 ^ 48) → cap = (Question.appendCap (l + n) c e).cut (w.tape w.drawn (.appendCap (l + n) c e)) →
      (Builtin.firstCells size l (.slice base l c)).run P { w with drawn := w.drawn + 1 } = .ok old { w with drawn := w.drawn + 1 } → (Builtin.firstCells size n x').run P { w with drawn := w.drawn + 1 } = .ok us { w with drawn := w.drawn + 1 } → ti.bytes ≠ 0 ∨ ¬ (((l + n : Nat) : Int) > IntKind.i64.max) →
      (Builtin.append_ ts ty #[a', x']).run P w = .ok (.slice (some ⟨w.heap.size, 0, none⟩) (l + n) cap) { w with drawn := w.drawn + 1, heap := w.heap.push (.cells (old ++ us ++ Builtin.zeroCells zv.cells (cap - (l + n))) e) }) := by
  subst hA
  constructor
  · intro hroom us w1 hfc hst hnone
    unfold Builtin.append_
    simp -zeta -zetaHave only [ht, hu, List.getElem?_toArray, List.getElem?_cons_zero, List.getElem?_cons_succ, Sem.run_bind, r_und hte, r_und hd, r_size hsz, Result.andThen_ok, Sem.run_pure]
    refine (app_jp hd hnint _).trans ?_
    refine (app_jp2 hlen _ _).trans ?_
    simp only [if_pos hroom, Bool.not_false, if_true, Sem.run_bind, hfc, Result.andThen_ok]
    cases base with
    | none => simp [hnone rfl]
    | some ad => simp [hst ad rfl]
  · intro hroom ti zv old us cap hti hzw hn1 hcap hold hus hn2
    unfold Builtin.append_
    simp -zeta -zetaHave only [ht, hu, List.getElem?_toArray, List.getElem?_cons_zero, List.getElem?_cons_succ, Sem.run_bind, r_und hte, r_und hd, r_size hsz, Result.andThen_ok, Sem.run_pure]
    refine (app_jp hd hnint _).trans ?_
    refine (app_jp2 hlen _ _).trans ?_
    simp only [if_neg hroom, Bool.not_false, if_true, Sem.run_bind, hti, Result.andThen_ok, Bool.false_eq_true, if_false, false_or]
    rw [if_neg (by rintro ⟨h1, h2⟩; rcases hn2 with h3 | h3; exact h3 h2; exact h3 h1)]
    simp only [Sem.run_bind, hti, Result.andThen_ok]
    rw [if_neg hn1]
    simp only [Sem.run_bind, run_choose]
    rw [if_neg (by simp [Question.forced])]
    simp only [Result.andThen_ok, run_askRoom, hti, hold, hus, hzw, newRow, Sem.run_bind, run_newObj, Sem.run_pure, hcap]

theorem appRun_of {ts : Array TypeId} {ty t u e : TypeId} {d : TypeDesc} {size bytes n : Nat} {a' x' zv : Value} {us : List Value} (ht : ts[0]? = some t) (hu : ts[1]? = some u) (hte : P.underlying t = some (.slice e)) (hd : P.underlying u = some d) (hnint : ∀ k, d ≠ .int k)
    (hsz : sizeQ P e = some size) (hby : bytesQ P e = some bytes) (hzw : ∀ w, (zeroValue e).run P w = .ok zv w) (hzs : zv.cells.size = size) (hlen : (Builtin.lenOf x').run P w = .ok n w)
    (hfc : ∀ d, (Builtin.firstCells size n x').run P { w with drawn := d } = .ok ⟨us⟩ { w with drawn := d }) :
    AppRun P w e size bytes n a' us ((Builtin.append_ ts ty #[a', x']).run P w) := by
  have hti : ∃ ti, (∀ w', (typeInfo e).run P w' = .ok ti w') ∧ ti.bytes = bytes := by
    unfold bytesQ at hby
    cases hi : P.info? e with
    | none => simp [hi] at hby
    | some i => simp [hi] at hby; exact ⟨i, fun w' => by simp [typeInfo, hi], hby⟩
  obtain ⟨ti, hti, htb⟩ := hti
  constructor
  · intro base l c hA hroom
    obtain ⟨h1, _⟩ := app_red (ty := ty) ht hu hte hd hnint hsz hlen hA
    constructor
    · intro b off hb w1 hst
      refine h1 hroom us w1 (hfc w.drawn) (fun ad had => ?_) (fun hn => by rw [hb] at hn; cases hn)
      rw [hb] at had
      cases had
      rw [add_addr]
      exact hst
    · intro hb
      exact h1 hroom us w (hfc w.drawn) (fun ad had => by rw [hb] at had; cases had) (fun _ => rfl)
  · intro base l c old hA hgrow hbound hold
    obtain ⟨_, h1⟩ := app_red (ty := ty) ht hu hte hd hnint hsz hlen hA
    have h2 : (l + n) * (bytes + 1) = (l + n) * bytes + (l + n) := by rw [Nat.mul_add, Nat.mul_one]
    have hb2 : (l + n) * bytes ≤ 140737488355328 := by omega
    have hfits := growslice_fits hgrow hb2
    have hcap : l + n ≤ (Question.appendCap (l + n) c e).cut (w.tape w.drawn (.appendCap (l + n) c e)) := by simp [Question.cut]
    have := h1 (by omega) ti zv ⟨old⟩ ⟨us⟩ _ hti hzw (by rw [htb]; omega) rfl (by rw [← hA]; exact hold _) (hfc _) (.inr (by simp [IntKind.max, IntKind.signed, IntKind.bits]; omega))
    refine ⟨_, (Builtin.zeroCells zv.cells ((Question.appendCap (l + n) c e).cut (w.tape w.drawn (.appendCap (l + n) c e)) - (l + n))).toList, hcap, by rw [rest_len, hzs], ?_⟩
    rw [this]
    congr 4
    rw [← Array.toList_inj]; simp

/-! the same with elements that are made in place: append(s, make([]T, n)...) -/

theorem app_jpZ {u : TypeId} {k : IntKind} (hd : P.underlying u = some (.int k)) (F : Bool → Sem Value) :
    (do
      let d ← underlying u
      let zeros ← pure (match d with | .int _ => true | _ => false)
      F zeros : Sem Value).run P w = (F true).run P w := by
  simp only [Sem.run_bind, r_und hd, Result.andThen_ok, Sem.run_pure]

theorem app_jpZ2 {e : TypeId} {ti : TypeInfo} {k2 : IntKind} {n : Int} (hti : (typeInfo e).run P w = .ok ti w) (hw : IntKind.i64.wrap n = n) (h0 : 0 ≤ n) (hbig : ¬ (n * ti.bytes > 2 ^ 48)) (A B : Int → Nat → Sem Unit) (C : Sem Value) (F : Nat → Sem Value) :
    (if (true : Bool) = true then do
        let q ← asInt (.int k2 n)
        if IntKind.i64.wrap q < 0 then do
          runtimePanic (.error "makeslice: len out of range")
          let ti ← typeInfo e
          if IntKind.i64.wrap q * ti.bytes > 2 ^ 48 then do
            let made ← choose (.extern "append.ofMake.carriedOut" 2)
            A q made
            let n ← pure (IntKind.i64.wrap q).toNat
            F n
          else do
            let n ← pure (IntKind.i64.wrap q).toNat
            F n
        else do
          let ti ← typeInfo e
          if IntKind.i64.wrap q * ti.bytes > 2 ^ 48 then do
            let made ← choose (.extern "append.ofMake.carriedOut" 2)
            B q made
            let n ← pure (IntKind.i64.wrap q).toNat
            F n
          else do
            let n ← pure (IntKind.i64.wrap q).toNat
            F n
      else C : Sem Value).run P w = (F n.toNat).run P w := by
  simp only [if_true, Sem.run_bind, asInt, asIntOf, Sem.run_pure, Result.andThen_ok, hw]
  rw [if_neg (by omega)]
  simp only [Sem.run_bind, hti, Result.andThen_ok]
  rw [if_neg hbig]
  simp only [Sem.run_bind, Sem.run_pure, Result.andThen_ok]

theorem app_redZ {ts : Array TypeId} {ty t u e : TypeId} {k k2 : IntKind} {size : Nat} {n : Int} {a' zv : Value} {base : Option Addr} {l c : Nat} {ti : TypeInfo} (ht : ts[0]? = some t) (hu : ts[1]? = some u) (hte : P.underlying t = some (.slice e)) (hd : P.underlying u = some (.int k))
    (hsz : sizeQ P e = some size) (hA : a' = .slice base l c) (hti : ∀ w, (typeInfo e).run P w = .ok ti w) (hw : IntKind.i64.wrap n = n) (h0 : 0 ≤ n) (hbig : ¬ (n * ti.bytes > 2 ^ 48)) (hzw : ∀ w, (zeroValue e).run P w = .ok zv w)
    (us : List Value) (hus : (if n.toNat * size = 0 then #[] else Builtin.zeroCells zv.cells n.toNat) = ⟨us⟩) :
    (l + n.toNat ≤ c → (∀ w1, (∀ ad, base = some ad → (storeCells (ad.add (l * size)) us).run P w = .ok () w1) → (base = none → w1 = w) → (Builtin.append_ ts ty #[a', .int k2 n]).run P w = .ok (.slice base (l + n.toNat) c) w1)) ∧
    (¬ l + n.toNat ≤ c → ∀ old cap, ¬ (Builtin.nextslicecap (l + n.toNat) c * ti.bytes > 2 ^ 48) → cap = (Question.appendCap (l + n.toNat) c e).cut (w.tape w.drawn (.appendCap (l + n.toNat) c e)) →
      (Builtin.firstCells size l (.slice base l c)).run P { w with drawn := w.drawn + 1 } = .ok old { w with drawn := w.drawn + 1 } → ¬ (((l + n.toNat : Nat) : Int) > IntKind.i64.max) →
      (Builtin.append_ ts ty #[a', .int k2 n]).run P w = .ok (.slice (some ⟨w.heap.size, 0, none⟩) (l + n.toNat) cap) { w with drawn := w.drawn + 1, heap := w.heap.push (.cells (old ++ ⟨us⟩ ++ Builtin.zeroCells zv.cells (cap - (l + n.toNat))) e) }) := by
  subst hA
  have happ : ∀ w, (if (!true) = true then Builtin.firstCells size n.toNat (.int k2 n) else if n.toNat * size = 0 then pure #[] else do pure (Builtin.zeroCells (← zeroValue e).cells n.toNat) : Sem (Array Value)).run P w = .ok ⟨us⟩ w := by
    intro w
    simp only [Bool.not_true, Bool.false_eq_true, if_false]
    rw [← hus]
    split <;> simp [hzw]
  constructor
  · intro hroom w1 hst hnone
    unfold Builtin.append_
    simp -zeta -zetaHave only [ht, hu, List.getElem?_toArray, List.getElem?_cons_zero, List.getElem?_cons_succ, Sem.run_bind, r_und hte, r_size hsz, Result.andThen_ok, Sem.run_pure]
    refine (app_jpZ hd _).trans ?_
    refine (app_jpZ2 (hti w) hw h0 hbig _ _ _ _).trans ?_
    simp only [if_pos hroom, Sem.run_bind]
    rw [happ w]
    simp only [Result.andThen_ok]
    cases base with
    | none => simp [hnone rfl]
    | some ad => simp [hst ad rfl]
  · intro hroom old cap hn1 hcap hold hn2
    unfold Builtin.append_
    simp -zeta -zetaHave only [ht, hu, List.getElem?_toArray, List.getElem?_cons_zero, List.getElem?_cons_succ, Sem.run_bind, r_und hte, r_size hsz, Result.andThen_ok, Sem.run_pure]
    refine (app_jpZ hd _).trans ?_
    refine (app_jpZ2 (hti w) hw h0 hbig _ _ _ _).trans ?_
    simp only [if_neg hroom, Sem.run_bind, hti, Result.andThen_ok]
    rw [if_neg (by rintro ⟨h1, _⟩; exact hn2 h1)]
    simp only [Sem.run_bind, hti, Result.andThen_ok]
    rw [if_neg hn1]
    simp only [Sem.run_bind, run_choose]
    rw [if_neg (by simp [Question.forced])]
    simp only [Result.andThen_ok, run_askRoom, hti, hold]
    rw [happ]
    simp only [Result.andThen_ok, hzw, newRow, Sem.run_bind, run_newObj, Sem.run_pure, hcap]

theorem appRunZ_of {ts : Array TypeId} {ty t u e : TypeId} {k k2 : IntKind} {size bytes : Nat} {n : Int} {a' x' zv : Value} (ht : ts[0]? = some t) (hu : ts[1]? = some u) (hte : P.underlying t = some (.slice e)) (hd : P.underlying u = some (.int k))
    (hsz : sizeQ P e = some size) (hby : bytesQ P e = some bytes) (hzw : ∀ w, (zeroValue e).run P w = .ok zv w) (hzs : zv.cells.size = size) (hx : x' = .int k2 n) (hn0 : 0 ≤ n) (hnb : n * (bytes + 1) ≤ 2 ^ 40) :
    AppRun P w e size bytes n.toNat a' (List.replicate n.toNat zv.cells.toList).flatten ((Builtin.append_ ts ty #[a', x']).run P w) := by
  have hti : ∃ ti, (∀ w', (typeInfo e).run P w' = .ok ti w') ∧ ti.bytes = bytes := by
    unfold bytesQ at hby
    cases hi : P.info? e with
    | none => simp [hi] at hby
    | some i => simp [hi] at hby; exact ⟨i, fun w' => by simp [typeInfo, hi], hby⟩
  obtain ⟨ti, hti, htb⟩ := hti
  have hnm : n * (bytes + 1) = n * bytes + n := by rw [Int.mul_add, Int.mul_one]
  have hnb0 : 0 ≤ n * (bytes : Int) := Int.mul_nonneg hn0 (by omega)
  have hw : IntKind.i64.wrap n = n := by
    unfold IntKind.wrap; simp [IntKind.bits, IntKind.signed]; omega
  have hbig : ¬ (n * (ti.bytes : Int) > 2 ^ 48) := by rw [htb]; omega
  have hus : (if n.toNat * size = 0 then #[] else Builtin.zeroCells zv.cells n.toNat) = (⟨(List.replicate n.toNat zv.cells.toList).flatten⟩ : Array Value) := by
    split
    · rename_i h0
      rw [← Array.toList_inj]
      symm
      apply List.eq_nil_of_length_eq_zero
      simp [hzs]
      exact h0
    · exact zeroCells_ok _ _
  subst hx
  constructor
  · intro base l c hA hroom
    obtain ⟨h1, _⟩ := app_redZ (w := w) (ty := ty) (k2 := k2) ht hu hte hd hsz hA hti hw hn0 hbig hzw _ hus
    constructor
    · intro b off hb w1 hst
      refine h1 hroom w1 (fun ad had => ?_) (fun hn => by rw [hb] at hn; cases hn)
      rw [hb] at had
      cases had
      rw [add_addr]
      exact hst
    · intro hb
      exact h1 hroom w (fun ad had => by rw [hb] at had; cases had) (fun _ => rfl)
  · intro base l c old hA hgrow hbound hold
    obtain ⟨_, h1⟩ := app_redZ (w := w) (ty := ty) (k2 := k2) ht hu hte hd hsz hA hti hw hn0 hbig hzw _ hus
    have h2 : (l + n.toNat) * (bytes + 1) = (l + n.toNat) * bytes + (l + n.toNat) := by rw [Nat.mul_add, Nat.mul_one]
    have hb2 : (l + n.toNat) * bytes ≤ 140737488355328 := by omega
    have hfits := growslice_fits hgrow hb2
    have hcap : l + n.toNat ≤ (Question.appendCap (l + n.toNat) c e).cut (w.tape w.drawn (.appendCap (l + n.toNat) c e)) := by simp [Question.cut]
    have := h1 (by omega) ⟨old⟩ _ (by rw [htb]; omega) rfl (by rw [← hA]; exact hold _) (by simp [IntKind.max, IntKind.signed, IntKind.bits]; omega)
    refine ⟨_, (Builtin.zeroCells zv.cells ((Question.appendCap (l + n.toNat) c e).cut (w.tape w.drawn (.appendCap (l + n.toNat) c e)) - (l + n.toNat))).toList, hcap, by rw [rest_len, hzs], ?_⟩
    rw [this]
    congr 4
    rw [← Array.toList_inj]; simp
end
end Go.AM
end
