/-
  strconv.ParseUint in letters, with its error, on the abstract machine. No statement of the seat is in it.
-/
import Derived.Test.YtadcebncbpopdaaGreatDoorQuote1
set_option linter.unusedSimpArgs false
set_option linter.unusedVariables false
set_option linter.unusedSimpArgs false
set_option linter.unusedVariables false
namespace Go.AM
/-! ## strconv.ParseUint of three letters, to the base 8 -/
def lowC (c : Int) : Int := ((bitsA .or (.int .u8 c) (.int .u8 32)).bind intOfA).getD 0
theorem lowC_eq (c : Int) : bitsA .or (.int .u8 c) (.int .u8 32) = some (.int .u8 (lowC c)) := rfl
set_option maxRecDepth 20000 in
theorem lowC_lt (c : UInt8) : 0 ≤ lowC c.toNat ∧ lowC c.toNat < 256 := by
  have : (List.range 256).all (fun n => decide (0 ≤ lowC (n : Nat)) && decide (lowC (n : Nat) < 256)) = true := by decide
  have := List.all_eq_true.1 this c.toNat (List.mem_range.2 c.toNat_lt)
  simpa using this
theorem octV_lt : ∀ (s : List UInt8) (v k : Nat), v < 8 ^ k → s.all isOct = true → octV s v < 8 ^ (k + s.length)
  | [], v, k, h, _ => by simpa [octV] using h
  | c :: r, v, k, h, ho => by
    simp only [List.all_cons, Bool.and_eq_true] at ho
    have hc : 48 ≤ c.toNat ∧ c.toNat ≤ 55 := by simpa [isOct] using ho.1
    simp only [octV]
    have := octV_lt r (8 * v + (c.toNat - 48)) (k + 1) (by rw [Nat.pow_succ]; omega) ho.2
    rw [List.length_cons, show k + (r.length + 1) = k + 1 + r.length by omega]
    exact this
theorem octV_snoc : ∀ (s : List UInt8) (v : Nat) (c : UInt8), octV (s ++ [c]) v = 8 * octV s v + (c.toNat - 48)
  | [], v, c => rfl
  | x :: r, v, c => by simp only [List.cons_append, octV]; exact octV_snoc r _ c
section
variable {P : Program} (hm : P.follows .mixedOrders = true)
include hm
theorem lower_ok (hf : FunIs P 133 a133) (h : AH) (c : Int) : CallW P 133 [.int .u8 c] h fun v h' => v = .int .u8 (lowC c) ∧ h' = h := by
  refine callW_fun hm hf (by simp [a133]) ?_
  unfold a133
  refine codeW_rs ?_
  simp
  refine codeW_rs ?_
  simp [lowC_eq]
  refine codeW_ret ?_
  simp

/-- What holds ahead of each digit. -/
def PI (H : AH) (b : Nat) (s : List UInt8) (m : Nat) (t : Tm) (h : AH) : Prop := h = H ∧ ∃ i : Nat, i ≤ 3 ∧ m = 3 - i ∧ (s.take i).all isOct = true ∧ t.get 1 = some (.int .i64 8) ∧ t.get 8 = some (.bool false) ∧ t.get 10 = some (.int .u64 2305843009213693952) ∧ t.get 11 = some (.int .u64 18446744073709551615) ∧
  t.get 12 = some (.bool false) ∧ t.get 13 = some (.int .u64 (octV (s.take i) 0)) ∧ t.get 99 = some (.sl b 0 3 3 false 1) ∧ t.get 100 = some (.int .i64 3) ∧ t.get 101 = some (.int .i64 i) ∧ t.get 9 = some (.str s)
/-- What holds behind the digits. -/
def PE (H : AH) (s : List UInt8) (e : Ex) (t : Tm) (h : AH) : Prop := h = H ∧
  ((e = .normal ∧ s.all isOct = true ∧ t.get 12 = some (.bool false) ∧ t.get 13 = some (.int .u64 (octV s 0))) ∨
   (e = .ret ∧ ¬ s.all isOct = true ∧ t.get 6 = some (.int .u64 0) ∧ t.get 7 = some (.ifc 228 (.int .i64 2))))
omit hm in
theorem not_oct {s : List UInt8} {i : Nat} {c : UInt8} (hc : s[i]? = some c) (h : isOct c = false) : ¬ s.all isOct = true := fun k => by
  have := List.all_eq_true.1 k c (List.mem_of_getElem? hc)
  rw [h] at this
  cases this

/-- Three bytes as a number to the base 8: it, or an error. -/
theorem pu_ok (h133 : FunIs P 133 a133) (hf : FunIs P 81 a81) (h : AH) {s : List UInt8} (hs : s.length = 3) :
    CallW P 81 [.str s, .int .i64 8, .int .i64 64] h fun v h' => v = (if s.all isOct = true then .tup [.int .u64 (octV s 0), .nili] else .tup [.int .u64 0, .ifc 228 (.int .i64 2)]) ∧ Keep h.next h h' := by
  refine callW_fun hm hf (by simp [a81]) ?_
  unfold a81
  have hne : (s == []) = false := by
    cases s with
    | nil => simp at hs
    | cons a r => rfl
  have q1 : IntKind.u64.wrap 8 = 8 := by decide
  have q2 : IntKind.u64.wrap 64 = 64 := by decide
  have q3 : IntKind.u64.wrap 2305843009213693951 = 2305843009213693951 := by decide
  have q4 : IntKind.u64.wrap 2305843009213693952 = 2305843009213693952 := by decide
  have q5 : IntKind.u64.wrap 18446744073709551616 = 0 := by decide
  have q6 : IntKind.u64.wrap (-1) = 18446744073709551615 := by decide
  have q7 : IntKind.u64.wrap (IntKind.u64.wrap (2 ^ min 64 IntKind.u64.bits) - 1) = 18446744073709551615 := by decide
  refine codeW_rs ?_
  simp
  refine codeW_seq ?_
  refine codeW_rs ?_
  simp [hne]
  refine codeW_cond_false (by simp) ?_
  refine codeW_skip ?_
  refine codeW_rs ?_
  simp
  refine codeW_rs ?_
  simp
  refine codeW_seq ?_
  refine codeW_block ?_
  refine codeW_rs ?_
  simp
  refine codeW_cond_true (by simp) ?_
  refine codeW_skip ?_
  simp
  refine codeW_seq ?_
  refine codeW_rs ?_
  simp
  refine codeW_cond_false (by simp) ?_
  refine codeW_rs ?_
  simp
  refine codeW_cond_false (by simp) ?_
  refine codeW_skip ?_
  refine codeW_rs ?_
  simp
  refine codeW_seq ?_
  refine codeW_rs ?_
  simp
  refine codeW_block ?_
  refine codeW_rs ?_
  simp
  refine codeW_cond_false (by simp) ?_
  refine codeW_rs ?_
  simp
  refine codeW_cond_false (by simp) ?_
  refine codeW_reg ?_
  simp [divA, q1, q3, q4]
  refine codeW_rs ?_
  simp [shiftA, q2, q5, q6]
  refine codeW_rs ?_
  simp
  refine codeW_rs ?_
  simp
  refine codeW_seq ?_
  refine codeW_rs ?_
  simp [hs]
  have hcs : (h.new (.cells false false 5 (cellsOfBytes s))).get h.next = some (.cells false false 5 (cellsOfBytes s)) := by simp
  have hkeep : Keep h.next h (h.new (.cells false false 5 (cellsOfBytes s))) := ⟨by simp, fun j hj => by
    have : j ≠ h.next := by omega
    simp [this]⟩
  generalize hb : h.next = b at *
  generalize hH : h.new (.cells false false 5 (cellsOfBytes s)) = H at *
  refine CodeW.mono (Q := PE H s) ?_ ?_
  · refine codeW_block ?_
    refine codeW_loop (I := PI H b s) (n := 3) ?_ ⟨rfl, 0, by decide, rfl, by simp, by simp, by simp, by simp, by simp [q7], by simp, by simp [octV], by simp, by simp, by simp, by simp⟩
    rintro m t K ⟨rfl, i, hi, rfl, hall, t1, t8, t10, t11, t12, t13, t99, t100, t101, t9⟩
    by_cases hlt : i < 3
    · have hlt' : (i : Int) < 3 := by omega
      obtain ⟨c, hc⟩ : ∃ c, s[i]? = some c := ⟨s[i]'(by omega), List.getElem?_eq_getElem (by omega)⟩
      have hld : loadA K 1 false (.ptr b i) = some (.int .u8 c.toNat) := by
        have hcell : (cellsOfBytes s)[i]? = some (.int .u8 c.toNat) := by simp [cellsOfBytes, hc]
        have hlen : i + 1 ≤ (cellsOfBytes s).length := by rw [cells_length]; omega
        simp only [loadA, readCells, hcs, AB.cs, cut]
        simp only [Bool.false_eq_true, if_false]
        rw [if_pos hlen]
        simp only [List.head?_take, List.head?_drop, hcell]
        rfl
      refine codeW_rs ?_
      simp [t101, t100, hlt']
      refine codeW_seq ?_
      refine codeW_cond_true (by simp) ?_
      refine codeW_skip ?_
      simp
      refine codeW_seq ?_
      refine codeW_block ?_
      refine codeW_rs ?_
      simp [-loadA, t99, t101, hlt', hld]
      refine codeW_rs ?_
      simp
      refine codeW_seq ?_
      refine codeW_block ?_
      have hcb := c.toNat_lt
      by_cases hoct : isOct c = true
      · have h48 : 48 ≤ c.toNat ∧ c.toNat ≤ 55 := by simpa [isOct] using hoct
        have e95 : ((c.toNat : Int) == 95) = false := by simp; omega
        have e48 : (48 : Int) ≤ (c.toNat : Int) := by omega
        have e57 : (c.toNat : Int) ≤ 57 := by omega
        have w1 : IntKind.u8.wrap ((c.toNat : Int) - 48) = (c.toNat : Int) - 48 := wrapu8 (by omega) (by omega)
        refine codeW_rs ?_
        simp [e95]
        refine codeW_cond_false (by simp) ?_
        refine codeW_rs ?_
        simp [e48, e57]
        refine codeW_cond_true (by simp) ?_
        refine codeW_reg ?_
        have hv : octV (s.take i) 0 < 8 ^ (0 + (s.take i).length) := octV_lt _ 0 0 (by decide) hall
        have hil : (s.take i).length = i := by simp; omega
        have hv' : octV (s.take i) 0 < 512 := by
          rw [hil] at hv
          have : 8 ^ (0 + i) ≤ 8 ^ 3 := Nat.pow_le_pow_right (by decide) (by omega)
          omega
        have w2 : IntKind.u64.wrap ((octV (s.take i) 0 : Int) * 8) = (octV (s.take i) 0 : Int) * 8 := wrapu64 (by omega) (by omega)
        have w3 : IntKind.u64.wrap ((c.toNat : Int) - 48) = (c.toNat : Int) - 48 := wrapu64 (by omega) (by omega)
        have w4 : IntKind.u64.wrap ((octV (s.take i) 0 : Int) * 8 + ((c.toNat : Int) - 48)) = (octV (s.take i) 0 : Int) * 8 + ((c.toNat : Int) - 48) := wrapu64 (by omega) (by omega)
        have w5 : IntKind.u8.wrap 8 = 8 := by decide
        have w6 : IntKind.i64.wrap ((i : Int) + 1) = ((i + 1 : Nat) : Int) := by rw [wrap64 (by omega) (by omega)]; rfl
        have g1 : ¬ (8 : Int) ≤ (c.toNat : Int) - 48 := by omega
        have g2 : ¬ (2305843009213693952 : Int) ≤ (octV (s.take i) 0 : Int) := by omega
        have g3 : ¬ (octV (s.take i) 0 : Int) * 8 + ((c.toNat : Int) - 48) < (octV (s.take i) 0 : Int) * 8 := by omega
        have g4 : ¬ (18446744073709551615 : Int) < (octV (s.take i) 0 : Int) * 8 + ((c.toNat : Int) - 48) := by omega
        simp [w1]
        refine codeW_seq ?_
        refine codeW_rs ?_
        simp [t1, w5]
        refine codeW_cond_false (by simp <;> omega) ?_
        refine codeW_skip ?_
        simp
        refine codeW_seq ?_
        refine codeW_rs ?_
        simp [t13, t10]
        refine codeW_cond_false (by simp <;> omega) ?_
        refine codeW_skip ?_
        simp
        refine codeW_rs ?_
        simp [t13, t1, q1, w2]
        refine codeW_rs ?_
        simp [w3, w4]
        refine codeW_seq ?_
        refine codeW_rs ?_
        simp [g3, g4, t11]
        refine codeW_cond_false (by simp <;> omega) ?_
        refine codeW_skip ?_
        simp
        refine codeW_reg ?_
        simp
        refine codeW_reg ?_
        simp [t101, w6]
        have htk : s.take (i + 1) = s.take i ++ [c] := by rw [List.take_add_one, hc]; rfl
        refine ⟨3 - (i + 1), by omega, rfl, i + 1, hlt, rfl, by rw [htk, List.all_append, hall]; simp [hoct], by simp [t1], by simp [t8], by simp [t10], by simp [t11], by simp [t12], ?_, by simp [t99], by simp [t100], by simp, by simp [t9]⟩
        rw [htk, octV_snoc]
        simp
        omega
      · have hno := not_oct hc (by simpa using hoct)
        have hoc : ¬ (48 ≤ c.toNat ∧ c.toNat ≤ 55) := by simpa [isOct] using hoct
        refine codeW_seq ?_
        refine CodeW.mono (Q := fun e t' h' => e = .normal ∧ K = h' ∧ t'.get 1 = some (.int .i64 8) ∧ t'.get 15 = some (.int .u8 c.toNat) ∧ t'.get 106 = some (.bool false)) ?_ ?_
        · refine codeW_reg ?_
          by_cases h95 : c.toNat = 95
          · simp [h95, t8, t1]
          · have e95 : ((c.toNat : Int) == 95) = false := by simp; omega
            simp [e95, t1]
        clear t1 t8 t10 t11 t12 t13 t99 t100 t101 t9 hld hall t
        rintro e t h' ⟨rfl, rfl, t1, t15, t106⟩
        simp only
        refine codeW_cond_false t106 ?_
        have w5 : IntKind.u8.wrap 8 = 8 := by decide
        by_cases hdig : 48 ≤ c.toNat ∧ c.toNat ≤ 57
        · have e48 : (48 : Int) ≤ (c.toNat : Int) := by omega
          have e57 : (c.toNat : Int) ≤ 57 := by omega
          have w1 : IntKind.u8.wrap ((c.toNat : Int) - 48) = (c.toNat : Int) - 48 := wrapu8 (by omega) (by omega)
          have g1 : (8 : Int) ≤ (c.toNat : Int) - 48 := by omega
          refine codeW_rs ?_
          simp [t15, e48, e57]
          refine codeW_cond_true (by simp) ?_
          refine codeW_reg ?_
          simp [t15, w1]
          refine codeW_seq ?_
          refine codeW_rs ?_
          simp [t1, w5, g1]
          refine codeW_cond_true (by simp <;> omega) ?_
          refine codeW_rs ?_
          simp
          refine codeW_ret ?_
          simp [PE]
          simpa using hno
        · obtain ⟨l1, l2⟩ := lowC_lt c
          refine codeW_seq ?_
          refine CodeW.mono (Q := fun e t' h' => e = .normal ∧ K = h' ∧ t'.get 1 = some (.int .i64 8) ∧ t'.get 15 = some (.int .u8 c.toNat) ∧ t'.get 112 = some (.bool false)) ?_ ?_
          · refine codeW_reg ?_
            by_cases h48 : 48 ≤ c.toNat
            · have e48 : (48 : Int) ≤ (c.toNat : Int) := by omega
              have e57 : ¬ (c.toNat : Int) ≤ 57 := by omega
              simp [t15, t1, e48, e57]
            · have e48 : ¬ (48 : Int) ≤ (c.toNat : Int) := by omega
              simp [t15, t1, e48]
          clear t1 t15 t106 t
          rintro e t h'' ⟨rfl, rfl, t1, t15, t112⟩
          simp only
          refine codeW_cond_false t112 ?_
          refine codeW_seq ?_
          refine CodeW.mono (Q := fun e t' h' => e = .normal ∧ K = h' ∧ t'.get 1 = some (.int .i64 8) ∧ t'.get 15 = some (.int .u8 c.toNat) ∧ t'.get 121 = some (.bool (decide (97 ≤ lowC c.toNat ∧ lowC c.toNat ≤ 122)))) ?_ ?_
          · by_cases l97 : 97 ≤ lowC c.toNat
            · refine codeW_reg ?_
              simp [t15]
              refine callThen_intro (lower_ok hm h133 K c.toNat) ?_
              rintro v h3 ⟨rfl, hh3⟩
              subst hh3
              simp [l97, t15]
              refine callThen_intro (lower_ok hm h133 _ c.toNat) ?_
              rintro v h4 ⟨rfl, hh4⟩
              subst hh4
              simp [t1, t15]
            · refine codeW_reg ?_
              simp [t15]
              refine callThen_intro (lower_ok hm h133 K c.toNat) ?_
              rintro v h3 ⟨rfl, hh3⟩
              subst hh3
              simp [l97, t15, t1]
          clear t1 t15 t112 t
          rintro e t h'' ⟨rfl, rfl, t1, t15, t121⟩
          simp only
          by_cases hlet : 97 ≤ lowC c.toNat ∧ lowC c.toNat ≤ 122
          · refine codeW_cond_true (by simp only [opnd]; rw [t121]; simp [hlet]) ?_
            refine codeW_reg ?_
            simp [t15]
            refine callThen_intro (lower_ok hm h133 K c.toNat) ?_
            rintro v h3 ⟨rfl, hh3⟩
            subst hh3
            have w1 : IntKind.u8.wrap (lowC c.toNat - 97) = lowC c.toNat - 97 := wrapu8 (by omega) (by omega)
            have w2 : IntKind.u8.wrap (lowC c.toNat - 97 + 10) = lowC c.toNat - 97 + 10 := wrapu8 (by omega) (by omega)
            have g1 : (8 : Int) ≤ lowC c.toNat - 97 + 10 := by omega
            simp [w1, w2]
            refine codeW_seq ?_
            refine codeW_rs ?_
            simp [t1, w5, g1]
            refine codeW_cond_true (by simp <;> omega) ?_
            refine codeW_rs ?_
            simp
            refine codeW_ret ?_
            simp [PE]
            simpa using hno
          · refine codeW_cond_false (by simp only [opnd]; rw [t121]; simp only [hlet]; rfl) ?_
            refine codeW_rs ?_
            simp
            refine codeW_ret ?_
            simp [PE]
            simpa using hno
    · refine codeW_rs ?_
      have hlt' : ¬ (i : Int) < 3 := by omega
      simp [t101, t100, hlt']
      refine codeW_seq ?_
      refine codeW_cond_false (by simp) ?_
      refine codeW_exit ?_
      have : i = 3 := by omega
      subst this
      have htk : s.take 3 = s := List.take_of_length_le (by omega)
      rw [htk] at hall t13
      simp [PE, t12, t13]
      exact List.all_eq_true.1 hall
  · rintro e t K ⟨rfl, ⟨rfl, hall, t12, t13⟩ | ⟨rfl, hall, t6, t7⟩⟩
    · simp only
      refine codeW_seq ?_
      refine codeW_rs ?_
      simp [t12]
      refine codeW_cond_false (by simp) ?_
      refine codeW_skip ?_
      refine codeW_rs ?_
      simp [t13]
      refine codeW_ret ?_
      simp
      exact ⟨List.all_eq_true.1 hall, hkeep⟩
    · simp [t6, t7]
      exact ⟨by simpa using hall, hkeep⟩
end
end Go.AM
set_option linter.unusedSimpArgs false
set_option linter.unusedVariables false
namespace Go.AM
/-! ## strconv.ParseUint with its error -/
section
variable {P : Program} (hm : P.follows .mixedOrders = true)
include hm
theorem clone_ok (hf : FunIs P 201 a201) (H : AH) {t : List UInt8} (ht : t.length = 3) :
    ∃ K, CallR P 201 [.str t] H (.str t) K ∧ Keep H.next H K := by
  match t, ht with
  | [a, b, c], _ =>
  refine ⟨((H.new (.cells true false 5 [.int .u8 0, .int .u8 0, .int .u8 0])).set H.next (.cells true false 5 [.int .u8 a.toNat, .int .u8 b.toNat, .int .u8 c.toNat])).set H.next (.cells true true 5 [.int .u8 a.toNat, .int .u8 b.toNat, .int .u8 c.toNat]), callW_fun hm hf (by simp [a201]) ?_, ?_⟩
  · unfold a201
    refine codeW_rs ?_
    simp
    refine codeW_seq ?_
    refine codeW_rs ?_
    simp
    refine codeW_cond_false (by simp) ?_
    refine codeW_skip ?_
    refine codeW_rs ?_
    simp [repl]
    refine codeW_rs ?_
    simp [elemsA, cellsOfBytes]
    refine codeW_rs ?_
    simp [bytesOfA, byteOfA]
    refine codeW_ret ?_
    simp
  · refine ⟨by simp, fun j hj => ?_⟩
    have : j ≠ H.next := by omega
    simp [this]
/-- ErrSyntax lies in the program's variable. -/
def ErrIn (H : AH) : Prop := NG + 1 ≤ H.next ∧ ∃ e u o, H.get 1 = some (.ro e [.ifc u (.ptr 8 o)])
omit hm in
theorem ErrIn.keep {H K : AH} (h : ErrIn H) (k : Keep (NG + 1) H K) : ErrIn K := by
  obtain ⟨h1, e, u, o, h2⟩ := h
  exact ⟨Nat.le_trans h1 k.1, e, u, o, (k.2 1 (by decide)).trans h2⟩
theorem syn_ok (h201 : FunIs P 201 a201) (hf : FunIs P 135 a135) (H : AH) (hE : ErrIn H) (fn : List UInt8) {t : List UInt8} (ht : t.length = 3) :
    CallW P 135 [.str fn, .str t] H fun v h' => (∃ i, v = .ptr i 0) ∧ Keep H.next H h' := by
  refine callW_fun hm hf (by simp [a135]) ?_
  unfold a135
  refine codeW_rs ?_
  simp
  refine codeW_seq ?_
  obtain ⟨hH, e, u, o, hg⟩ := hE
  obtain ⟨K, hc, hk⟩ := clone_ok hm h201 (H.skip 7) ht
  have hgK : K.get 1 = some (.ro e [.ifc u (.ptr 8 o)]) := (hk.2 1 (by have : NG = 8 := rfl; have : H.next + 7 = (H.skip 7).next := rfl; omega)).trans (by simpa using hg)
  refine codeW_drawS hc [2, 3] ?_
  have hb1 : Nat.blt 1 NG = true := rfl
  simp [oneCall_self, hb1, hgK, hg, sameV, AV.beq]
  refine codeW_ret ?_
  simp
  have h1 : H.next + 7 ≤ K.next := hk.1
  refine ⟨by simp; omega, fun j hj => ?_⟩
  have : j ≠ H.next + 5 := by omega
  simp [this]
  exact hk.2 j (by change j < H.next + 7; omega)
theorem toerr_ok (h201 : FunIs P 201 a201) (h135 : FunIs P 135 a135) (hf : FunIs P 82 a82) (H : AH) (hE : ErrIn H) (fn : List UInt8) {t : List UInt8} (ht : t.length = 3) (b c : Int) :
    CallW P 82 [.str fn, .str t, .int .i64 b, .int .i64 c, .ifc 228 (.int .i64 2)] H fun v h' => (∃ i, v = .ifc 230 (.ptr i 0)) ∧ Keep H.next H h' := by
  refine callW_fun hm hf (by simp [a82]) ?_
  unfold a82
  refine codeW_rs ?_
  simp
  refine codeW_seq ?_
  refine codeW_rs ?_
  simp
  refine codeW_block ?_
  refine codeW_rs ?_
  simp
  refine codeW_cond_true (by simp) ?_
  refine codeW_rs ?_
  simp
  refine callThen_intro (syn_ok hm h201 h135 H hE fn ht) ?_
  rintro v h2 ⟨⟨i, rfl⟩, hk⟩
  simp
  refine codeW_ret ?_
  simp
  exact hk
theorem pu50_ok (h133 : FunIs P 133 a133) (h81 : FunIs P 81 a81) (h201 : FunIs P 201 a201) (h135 : FunIs P 135 a135) (h82 : FunIs P 82 a82) (hf : FunIs P 50 a50) (H : AH) (hE : ErrIn H) {t : List UInt8} (ht : t.length = 3) :
    CallW P 50 [.str t, .int .i64 8, .int .i64 64] H fun v h' => PuV t v ∧ Keep H.next H h' := by
  refine callW_fun hm hf (by simp [a50]) ?_
  unfold a50
  refine codeW_rs ?_
  simp
  refine codeW_rs ?_
  simp
  refine callThen_intro (pu_ok hm h133 h81 H ht) ?_
  rintro v h2 ⟨hv, hk⟩
  by_cases ho : t.all isOct = true
  · rw [if_pos ho] at hv
    subst hv
    simp
    refine codeW_seq ?_
    refine codeW_rs ?_
    simp
    refine codeW_cond_false (by simp) ?_
    refine codeW_skip ?_
    refine codeW_rs ?_
    simp
    refine codeW_ret ?_
    simp [PuV]
    exact ⟨List.all_eq_true.1 ho, hk⟩
  · rw [if_neg ho] at hv
    subst hv
    simp
    refine codeW_seq ?_
    refine codeW_rs ?_
    simp
    refine codeW_cond_true (by simp) ?_
    refine codeW_rs ?_
    simp
    refine callThen_intro (toerr_ok hm h201 h135 h82 h2 (hE.keep (hk.le hE.1)) _ ht _ _) ?_
    rintro v h3 ⟨⟨i, rfl⟩, hk3⟩
    simp
    refine codeW_ret ?_
    simp [PuV]
    exact ⟨by simpa using ho, hk.trans (hk3.le hk.1)⟩
end
end Go.AM
