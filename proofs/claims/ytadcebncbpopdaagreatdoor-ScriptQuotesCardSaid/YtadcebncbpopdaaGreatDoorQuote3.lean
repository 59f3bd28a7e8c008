/-
  The document's reading of a text in quotes; the law ScriptQuotes on the abstract machine, in letters.
-/
import Derived.Test.YtadcebncbpopdaaGreatDoorQuote2
set_option linter.unusedSimpArgs false
set_option linter.unusedVariables false
set_option linter.unusedSimpArgs false
set_option linter.unusedVariables false
namespace Go.AM
/-! ## The document's reading of a text in quotes -/
/-- What holds ahead of each letter. -/
def RI (M : List UInt8) (H : AH) (R : Option (List UInt8)) (m : Nat) (t : Tm) (h : AH) : Prop :=
  Keep H.next H h ∧ ∃ (i : Nat) (out : List UInt8), i ≤ M.length ∧ M.length - i ≤ m ∧ t.get 4 = some (.str M) ∧ t.get 5 = some (.str out) ∧ t.get 6 = some (.int .i64 i) ∧ out.length ≤ 2 * i ∧ qloop m (M.drop i) out = R
/-- What holds behind the letters. -/
def RE (H : AH) (R : Option (List UInt8)) (e : Ex) (t : Tm) (h : AH) : Prop :=
  Keep H.next H h ∧ ((e = .normal ∧ ∃ out, R = some out ∧ t.get 5 = some (.str out)) ∨ (e = .ret ∧ R = none ∧ t.get 2 = some (.str []) ∧ t.get 3 = some (.bool false)))
/-- What holds behind a letter: the place before the next. -/
def RN (M : List UInt8) (H : AH) (R : Option (List UInt8)) (m : Nat) (e : Ex) (t : Tm) (h : AH) : Prop :=
  Keep H.next H h ∧ ((e = .normal ∧ ∃ (i : Nat) (out : List UInt8), i + 1 ≤ M.length ∧ M.length - (i + 1) ≤ m ∧ t.get 4 = some (.str M) ∧ t.get 5 = some (.str out) ∧ t.get 6 = some (.int .i64 i) ∧ out.length ≤ 2 * (i + 1) ∧ qloop m (M.drop (i + 1)) out = R) ∨
    (e = .ret ∧ R = none ∧ t.get 2 = some (.str []) ∧ t.get 3 = some (.bool false)))
/-- What holds ahead of each of three digits. -/
def OI (M out : List UInt8) (i : Nat) (r : List UInt8) (h : AH) (m : Nat) (t : Tm) (K : AH) : Prop := K = h ∧ ∃ k : Nat, k ≤ 3 ∧ k ≤ r.length ∧ m = 3 - k ∧ (r.take k).all isOct = true ∧
  t.get 4 = some (.str M) ∧ t.get 5 = some (.str out) ∧ t.get 6 = some (.int .i64 ((i : Int) + 1)) ∧ t.get 7 = some (.int .i64 (octV (r.take k) 0)) ∧ t.get 8 = some (.int .i64 k)
/-- What holds behind them. -/
def OE (M out : List UInt8) (i : Nat) (r : List UInt8) (h : AH) (e : Ex) (t : Tm) (K : AH) : Prop := K = h ∧
  ((e = .normal ∧ 3 ≤ r.length ∧ (r.take 3).all isOct = true ∧ t.get 4 = some (.str M) ∧ t.get 5 = some (.str out) ∧ t.get 6 = some (.int .i64 ((i : Int) + 1)) ∧ t.get 7 = some (.int .i64 (octV (r.take 3) 0))) ∨
   (e = .ret ∧ (r.length < 3 ∨ ¬ (r.take 3).all isOct = true) ∧ t.get 2 = some (.str []) ∧ t.get 3 = some (.bool false)))
section
variable {P : Program} (hm : P.follows .mixedOrders = true)
include hm
set_option maxHeartbeats 4000000 in
theorem ref_ok (hf : FunIs P 10 a10) (H : AH) {s : List UInt8} (hl : s.length < 2 ^ 30) :
    CallW P 10 [.str s] H fun v h' => v = .tup [.str ((unq s).getD []), .bool (unq s).isSome] ∧ Keep H.next H h' := by
  refine callW_fun hm hf (by simp [a10]) ?_
  unfold a10
  refine codeW_rs ?_
  simp
  refine codeW_seq ?_
  by_cases h2 : s.length < 2
  · refine codeW_rs ?_
    have h2' : (s.length : Int) < 2 := by omega
    simp [h2']
    refine codeW_cond_true (by simp) ?_
    refine codeW_rs ?_
    simp
    refine codeW_ret ?_
    simp [unq, h2, Keep.refl]
  obtain ⟨a, ha⟩ : ∃ a, s[0]? = some a := ⟨s[0]'(by omega), List.getElem?_eq_getElem (by omega)⟩
  obtain ⟨z, hz⟩ : ∃ z, s[s.length - 1]? = some z := ⟨s[s.length - 1]'(by omega), List.getElem?_eq_getElem (by omega)⟩
  have h2' : ¬ (s.length : Int) < 2 := by omega
  have hw : IntKind.i64.wrap ((s.length : Int) - 1) = (s.length : Int) - 1 := wrap64 (by omega) (by omega)
  have hnn : (0 : Int) ≤ (s.length : Int) - 1 := by omega
  have htn : ((s.length : Int) - 1).toNat = s.length - 1 := by omega
  have h1n : (1 : Int) ≤ (s.length : Int) := by omega
  by_cases ha34 : a.toNat = 34
  · by_cases hz34 : z.toNat = 34
    · refine codeW_rs ?_
      simp [h2', ha, ha34, hw, hnn, htn, hz, hz34, h1n]
      refine codeW_cond_false (by simp) ?_
      refine codeW_skip ?_
      refine codeW_rs ?_
      have h12 : (1 : Int) ≤ (s.length : Int) - 1 := by omega
      have h13 : (s.length : Int) - 1 ≤ (s.length : Int) := by omega
      have h14 : s.length - 1 - 1 = s.length - 2 := by omega
      have h15 : ((s.length : Int) - 1 - 1).toNat = s.length - 2 := by omega
      have h16 : (1 : Int) ≤ ((s.length - 1 : Nat) : Int) := by omega
      simp [hw, htn, h12, h13, h14, h15, h1n, h16]
      have hun : unq s = qloop s.length ((s.drop 1).take (s.length - 2)) [] := by
        rw [unq, if_neg h2, if_pos (by simp [ha, hz, ha34, hz34])]
      rw [hun]
      clear hun
      generalize hR : qloop s.length ((s.drop 1).take (s.length - 2)) [] = R
      have hlM : ((s.drop 1).take (s.length - 2)).length ≤ s.length := by simp; omega
      generalize hM : (s.drop 1).take (s.length - 2) = M at hR hlM
      simp only [List.drop_one] at hM
      simp only [hM]
      refine codeW_rs ?_
      simp
      refine codeW_seq ?_
      refine codeW_rs ?_
      simp
      refine CodeW.mono (Q := RE H R) ?_ ?_
      · refine codeW_block ?_
        refine codeW_loop (I := RI M H R) (n := s.length) ?_ ⟨Keep.refl _ _, 0, [], Nat.zero_le _, by omega, by simp, by simp, by simp, by simp, by simpa using hR⟩
        clear hR hM ha hz
        rintro m t h ⟨hk, i, out, hi, him, t4, t5, t6, hlo, hR⟩
        by_cases hlt : i < M.length
        · obtain ⟨m, rfl⟩ : ∃ m', m = m' + 1 := ⟨m - 1, by omega⟩
          have hlt' : (i : Int) < (M.length : Int) := by omega
          obtain ⟨c, hc⟩ : ∃ c, M[i]? = some c := ⟨M[i]'hlt, List.getElem?_eq_getElem hlt⟩
          have hd : M.drop i = c :: M.drop (i + 1) := by
            rw [List.drop_eq_getElem_cons hlt]
            have := List.getElem?_eq_getElem hlt
            rw [hc] at this
            rw [Option.some.inj this]
          have hw1 : IntKind.i64.wrap ((i : Int) + 1) = ((i + 1 : Nat) : Int) := by rw [wrap64 (by omega) (by omega)]; rfl
          have hi0 : (0 : Int) ≤ (i : Int) := by omega
          refine codeW_seq ?_
          refine codeW_rs ?_
          simp [t6, t4, hlt']
          refine codeW_cond_true (by simp) ?_
          refine codeW_skip ?_
          simp
          refine codeW_seq ?_
          refine CodeW.mono (Q := RN M H R m) ?_ ?_
          · rw [hd] at hR
            simp only [qloop] at hR
            refine codeW_block ?_
            refine codeW_seq ?_
            refine codeW_block ?_
            by_cases h32 : c.toNat = 32 ∨ c.toNat = 34
            · rw [if_pos h32] at hR
              refine codeW_seq ?_
              refine CodeW.mono (Q := fun e t' h' => e = .normal ∧ h = h' ∧ t'.get 36 = some (.bool true)) ?_ ?_
              · refine codeW_reg ?_
                by_cases h4 : c.toNat = 34
                · simp [t4, t6, hi0, hc, h4]
                · have h5 : c.toNat = 32 := by omega
                  simp [t4, t6, hi0, hc, h5]
              rintro e t h' ⟨rfl, rfl, t36⟩
              simp only
              refine codeW_cond_true t36 ?_
              refine codeW_rs ?_
              simp
              refine codeW_ret ?_
              simp [RN, ← hR]
              exact hk
            · rw [if_neg h32] at hR
              have e34 : ((c.toNat : Int) == 34) = false := by simp; omega
              have e32 : ((c.toNat : Int) == 32) = false := by simp; omega
              refine codeW_rs ?_
              simp [t4, t6, hi0, hc, e34, e32]
              refine codeW_cond_false (by simp) ?_
              refine codeW_rs ?_
              simp [t4, t6, hi0, hc]
              by_cases h92 : c.toNat = 92
              · rw [if_pos h92] at hR
                refine codeW_cond_false (by simp [h92]) ?_
                refine codeW_skip ?_
                simp
                refine codeW_seq ?_
                refine codeW_rs ?_
                simp [t4, t6, hw1]
                by_cases hend : M.length ≤ i + 1
                · have hr0 : M.drop (i + 1) = [] := List.drop_of_length_le hend
                  rw [hr0] at hR
                  simp only [escP, if_true] at hR
                  refine codeW_cond_true (by simp; omega) ?_
                  refine codeW_rs ?_
                  simp
                  refine codeW_ret ?_
                  simp [RN, ← hR]
                  exact hk
                have hlt2 : i + 1 < M.length := by omega
                obtain ⟨d, hd2⟩ : ∃ d, M[i + 1]? = some d := ⟨M[i + 1]'hlt2, List.getElem?_eq_getElem hlt2⟩
                have hdr : M.drop (i + 1) = d :: M.drop (i + 2) := by
                  rw [List.drop_eq_getElem_cons hlt2]
                  have := List.getElem?_eq_getElem hlt2
                  rw [hd2] at this
                  rw [Option.some.inj this]
                have s0 : (0 : Int) ≤ (i : Int) + 1 := by omega
                have s7 : ((i : Int) + 1).toNat = i + 1 := by omega
                have b1 : out.length + 1 < 4611686018427387904 := by omega
                have b2 : out.length + 1 + 1 < 4611686018427387904 := by omega
                refine codeW_cond_false (by simp; omega) ?_
                refine codeW_skip ?_
                simp
                refine codeW_rs ?_
                simp [t6, hw1]
                refine codeW_rs ?_
                simp [t4, s0, s7, hd2]
                refine codeW_block ?_
                refine codeW_rs ?_
                simp
                have hle : (M.drop (i + 1)).length = M.length - (i + 1) := by simp
                have hdn : ∀ n, (M.drop (i + 1)).drop n = M.drop (i + 1 + n) := fun n => by rw [List.drop_drop]
                have hel := escP_len (M.drop (i + 1))
                rw [hdn] at hR
                generalize hrr : M.drop (i + 1) = r at hR hle hel hdr hdn
                have hrl : r.length = (M.drop (i + 2)).length + 1 := by rw [hdr]; rfl
                -- one letter more
                by_cases k115 : d.toNat = 115
                · have he : escP r = ([32], 1) := by rw [hdr]; simp [escP, k115]
                  rw [he] at hR hel
                  simp only [if_neg (show ¬ (1 : Nat) = 0 by decide)] at hR
                  refine codeW_cond_true (by simp [k115]) ?_
                  refine codeW_reg ?_
                  simp [t5, b1]
                  simp [RN, t4, t5]
                  exact ⟨hk, i + 1, by omega, by omega, by omega, by omega, hR⟩
                have e115 : ((d.toNat : Int) == 115) = false := by simp; omega
                refine codeW_cond_false (by simp [e115]) ?_
                refine codeW_rs ?_
                simp
                by_cases k110 : d.toNat = 110
                · have he : escP r = ([13, 10], 1) := by rw [hdr]; simp [escP, k110]
                  rw [he] at hR hel
                  simp only [if_neg (show ¬ (1 : Nat) = 0 by decide)] at hR
                  refine codeW_cond_true (by simp [k110]) ?_
                  refine codeW_reg ?_
                  simp [t5, b2]
                  simp [RN, t4, t5]
                  exact ⟨hk, i + 1, by omega, by omega, by omega, by omega, hR⟩
                have e110 : ((d.toNat : Int) == 110) = false := by simp; omega
                refine codeW_cond_false (by simp [e110]) ?_
                refine codeW_seq ?_
                refine codeW_rs ?_
                simp
                by_cases kk : d.toNat = 92 ∨ d.toNat = 34
                · have he : escP r = ([d], 1) := by rw [hdr]; simp only [escP, k115, k110, kk, if_true, if_false]
                  rw [he] at hR hel
                  simp only [if_neg (show ¬ (1 : Nat) = 0 by decide)] at hR
                  refine CodeW.mono (Q := fun e t' h' => e = .normal ∧ h = h' ∧ t'.get 123 = some (.bool true) ∧ t'.get 4 = some (.str M) ∧ t'.get 5 = some (.str out) ∧ t'.get 6 = some (.int .i64 ((i : Int) + 1))) ?_ ?_
                  · by_cases k92 : d.toNat = 92
                    · refine codeW_cond_true (by simp [k92]) ?_
                      refine codeW_skip ?_
                      simp [k92, t4, t5]
                    · have k34 : d.toNat = 34 := by omega
                      refine codeW_cond_false (by simp [k34]) ?_
                      refine codeW_reg ?_
                      simp [k34, t4, t5]
                  rintro e t' h' ⟨rfl, rfl, t123, u4, u5, u6⟩
                  simp only
                  refine codeW_cond_true t123 ?_
                  refine codeW_reg ?_
                  have hw2 : IntKind.i64.wrap ((i : Int) + 1 + 1) = (i : Int) + 1 + 1 := wrap64 (by omega) (by omega)
                  have s8 : (0 : Int) ≤ (i : Int) + 1 + 1 := by omega
                  have s9 : (i : Int) + 1 + 1 ≤ (M.length : Int) := by omega
                  have s10 : (i : Int) + 1 ≤ (i : Int) + 1 + 1 := by omega
                  have s11 : ((i : Int) + 1 + 1).toNat = i + 1 + 1 := by omega
                  have s12 : (M.drop (i + 1)).take 1 = [d] := by rw [hrr, hdr]; rfl
                  have s13 : i + 1 + 1 - (i + 1) = 1 := by omega
                  simp [-List.take_succ_cons, u4, u5, u6, hw2, s8, s9, s10, s11, s0, s7, s12, s13, b1]
                  simp [RN, u4, u6]
                  exact ⟨hk, i + 1, by omega, by omega, by omega, by omega, hR⟩
                have he : escP r = (if r.length < 3 then ([], 0) else if (r.take 3).all isOct = true ∧ octV (r.take 3) 0 ≤ 255 then ([UInt8.ofNat (octV (r.take 3) 0)], 3) else ([], 0)) := by
                  rw [hdr]; simp only [escP, k115, k110, kk, if_false]
                refine CodeW.mono (Q := fun e t' h' => e = .normal ∧ h = h' ∧ t'.get 123 = some (.bool false) ∧ t'.get 4 = some (.str M) ∧ t'.get 5 = some (.str out) ∧ t'.get 6 = some (.int .i64 ((i : Int) + 1))) ?_ ?_
                · have k92 : ¬ (d.toNat : Int) = 92 := by omega
                  have k34 : ¬ (d.toNat : Int) = 34 := by omega
                  refine codeW_cond_false (by simp [k92]) ?_
                  refine codeW_reg ?_
                  simp [k34, t4, t5]
                rintro e t' h' ⟨rfl, rfl, t123, u4, u5, u6⟩
                simp only
                refine codeW_cond_false t123 ?_
                refine codeW_rs ?_
                simp
                refine codeW_seq ?_
                refine codeW_rs ?_
                simp
                refine CodeW.mono (Q := OE M out i r h) ?_ ?_
                · refine codeW_block ?_
                  refine codeW_loop (I := OI M out i r h) (n := 3) ?_ ⟨rfl, 0, by omega, by omega, rfl, rfl, by simp [u4], by simp [u5], by simp [u6], by simp [octV], by simp⟩
                  rintro m' t1 K ⟨hK, k, hk3, hkr, rfl, hall, v4, v5, v6, v7, v8⟩
                  subst hK
                  by_cases hk' : k < 3
                  · have hk'' : (k : Int) < 3 := by omega
                    have hw2 : IntKind.i64.wrap ((i : Int) + 1 + (k : Int)) = (i : Int) + 1 + (k : Int) := wrap64 (by omega) (by omega)
                    refine codeW_seq ?_
                    refine codeW_rs ?_
                    simp [v8, hk'']
                    refine codeW_cond_true (by simp) ?_
                    refine codeW_skip ?_
                    simp
                    refine codeW_seq ?_
                    refine codeW_block ?_
                    refine codeW_seq ?_
                    refine codeW_seq ?_
                    have s8 : (0 : Int) ≤ (i : Int) + 1 + (k : Int) := by omega
                    have s9 : ((i : Int) + 1 + (k : Int)).toNat = i + 1 + k := by omega
                    have hbad : ∀ T : Tm, (k ≥ r.length ∨ ∃ x, r[k]? = some x ∧ isOct x = false) → OE M out i r K .ret ((T.put 2 (some (.str []))).put 3 (some (.bool false))) K := by
                      intro T hb
                      refine ⟨rfl, .inr ⟨rfl, ?_, by simp, by simp⟩⟩
                      rcases hb with hb | ⟨x, hx, ho⟩
                      · left; omega
                      · by_cases h3 : r.length < 3
                        · exact .inl h3
                        · right
                          intro hall3
                          have : x ∈ r.take 3 := by
                            refine List.mem_of_getElem? (i := k) ?_
                            rw [List.getElem?_take, if_pos hk']; exact hx
                          have := List.all_eq_true.1 hall3 x this
                          rw [ho] at this
                          cases this
                    have hMr : ∀ x, M[i + 1 + k]? = some x → r[k]? = some x := fun x hx => by rw [← hrr, List.getElem?_drop]; exact hx
                    by_cases hke : r.length ≤ k
                    · have g1 : (M.length : Int) ≤ (i : Int) + 1 + (k : Int) := by omega
                      refine codeW_reg ?_
                      simp [v4, v6, v8, hw2, g1]
                      refine codeW_cond_true (by simp <;> omega) ?_
                      refine codeW_rs ?_
                      simp
                      refine codeW_ret ?_
                      simpa using hbad _ (.inl hke)
                    have g1 : ¬ (M.length : Int) ≤ (i : Int) + 1 + (k : Int) := by omega
                    obtain ⟨x, hx⟩ : ∃ x, M[i + 1 + k]? = some x := ⟨M[i + 1 + k]'(by omega), List.getElem?_eq_getElem (by omega)⟩
                    have hxr := hMr x hx
                    have hxb := x.toNat_lt
                    by_cases g2 : x.toNat < 48
                    · have g2' : (x.toNat : Int) < 48 := by omega
                      refine codeW_reg ?_
                      simp [v4, v6, v8, hw2, g1, s8, s9, hx, g2']
                      refine codeW_cond_true (by simp <;> omega) ?_
                      refine codeW_rs ?_
                      simp
                      refine codeW_ret ?_
                      simpa using hbad _ (.inr ⟨x, hxr, by simp [isOct]; omega⟩)
                    have g2' : ¬ (x.toNat : Int) < 48 := by omega
                    by_cases g3 : 55 < x.toNat
                    · have g3' : (55 : Int) < (x.toNat : Int) := by omega
                      refine codeW_reg ?_
                      simp [v4, v6, v8, hw2, g1, s8, s9, hx, g2', g3']
                      refine codeW_cond_true (by simp <;> omega) ?_
                      refine codeW_rs ?_
                      simp
                      refine codeW_ret ?_
                      simpa using hbad _ (.inr ⟨x, hxr, by simp [isOct]; omega⟩)
                    have g3' : ¬ (55 : Int) < (x.toNat : Int) := by omega
                    refine codeW_reg ?_
                    simp [v4, v6, v8, hw2, g1, s8, s9, hx, g2', g3']
                    refine codeW_cond_false (by simp <;> omega) ?_
                    refine codeW_skip ?_
                    simp
                    have hv : octV (r.take k) 0 < 8 ^ (0 + (r.take k).length) := octV_lt _ 0 0 (by decide) hall
                    have hil : (r.take k).length = k := by simp; omega
                    have hv' : octV (r.take k) 0 < 512 := by
                      rw [hil] at hv
                      have : 8 ^ (0 + k) ≤ 8 ^ 3 := Nat.pow_le_pow_right (by decide) (by omega)
                      omega
                    have w1 : IntKind.i64.wrap (8 * (octV (r.take k) 0 : Int)) = 8 * (octV (r.take k) 0 : Int) := wrap64 (by omega) (by omega)
                    have w2 : IntKind.u8.wrap ((x.toNat : Int) - 48) = (x.toNat : Int) - 48 := wrapu8 (by omega) (by omega)
                    have w3 : IntKind.i64.wrap ((x.toNat : Int) - 48) = (x.toNat : Int) - 48 := wrap64 (by omega) (by omega)
                    have w4 : IntKind.i64.wrap (8 * (octV (r.take k) 0 : Int) + ((x.toNat : Int) - 48)) = 8 * (octV (r.take k) 0 : Int) + ((x.toNat : Int) - 48) := wrap64 (by omega) (by omega)
                    have w5 : IntKind.i64.wrap ((k : Int) + 1) = ((k + 1 : Nat) : Int) := by rw [wrap64 (by omega) (by omega)]; rfl
                    refine codeW_reg ?_
                    simp [v4, v6, v7, v8, hw2, s8, s9, hx, w1, w2, w3, w4]
                    refine codeW_reg ?_
                    simp [v8, w5]
                    have htk : r.take (k + 1) = r.take k ++ [x] := by rw [List.take_add_one, hxr]; rfl
                    have hox : isOct x = true := by simp [isOct]; omega
                    refine ⟨3 - (k + 1), by omega, rfl, k + 1, by omega, by omega, rfl, by rw [htk, List.all_append, hall]; simp [hox], by simp [v4], by simp [v5], by simp [v6], ?_, by simp⟩
                    rw [htk, octV_snoc]
                    simp
                    omega
                  · have hk'' : ¬ (k : Int) < 3 := by omega
                    have : k = 3 := by omega
                    subst this
                    refine codeW_seq ?_
                    refine codeW_rs ?_
                    simp [v8]
                    refine codeW_cond_false (by simp) ?_
                    refine codeW_exit ?_
                    simp
                    exact ⟨rfl, .inl ⟨rfl, hkr, hall, by simp [v4], by simp [v5], by simp [v6], by simp [v7]⟩⟩
                · rintro e t1 h' ⟨hK, ⟨rfl, hr3, hall, v4, v5, v6, v7⟩ | ⟨rfl, hbad, v2, v3⟩⟩
                  · subst hK
                    simp only
                    rw [if_neg (show ¬ r.length < 3 by omega)] at he
                    refine codeW_seq ?_
                    refine codeW_rs ?_
                    simp [v7]
                    by_cases h255 : octV (r.take 3) 0 ≤ 255
                    · rw [if_pos ⟨hall, h255⟩] at he
                      rw [he] at hR hel
                      simp only [if_neg (show ¬ (3 : Nat) = 0 by decide)] at hR
                      refine codeW_cond_false (by simp; omega) ?_
                      refine codeW_skip ?_
                      simp
                      refine codeW_rs ?_
                      have hw : IntKind.u8.wrap (octV (r.take 3) 0) = octV (r.take 3) 0 := wrapu8 (by omega) (by omega)
                      have hu : (octV (r.take 3) 0 : Int) = ((UInt8.ofNat (octV (r.take 3) 0)).toNat : Int) := by
                        rw [UInt8.toNat_ofNat', Nat.mod_eq_of_lt (by omega)]
                      have hB0 : Bytes (h'.new (.cells true false 5 [.int .u8 (octV (r.take 3) 0)])) h'.next 0 1 [UInt8.ofNat (octV (r.take 3) 0)] := by
                        rw [hu]
                        exact Bytes.of_get (x := true) (fz := false) (e := 5) (s := [UInt8.ofNat (octV (r.take 3) 0)]) 0 (by simp [cellsOfBytes]) rfl (Nat.zero_le _)
                      simp [v5, v7, hw, repl, hB0.text, b1]
                      refine codeW_reg ?_
                      have hw2 : IntKind.i64.wrap ((i : Int) + 1 + 2) = (i : Int) + 1 + 2 := wrap64 (by omega) (by omega)
                      simp [v6, hw2]
                      refine ⟨hk.trans ⟨by simp, fun j hj => ?_⟩, .inl ⟨rfl, i + 3, out ++ [UInt8.ofNat (octV (r.take 3) 0)], by omega, by omega, by simp [v4], by simp, by simp; omega, by simp; omega, hR⟩⟩
                      have h1 := hk.1
                      have : j ≠ h'.next := by omega
                      simp [this]
                    · rw [if_neg (fun x => h255 x.2)] at he
                      rw [he] at hR
                      simp at hR
                      refine codeW_cond_true (by simp; omega) ?_
                      refine codeW_rs ?_
                      simp
                      refine codeW_ret ?_
                      simp [RN]
                      exact ⟨hk, hR.symm⟩
                  · subst hK
                    have he0 : escP r = ([], 0) := by
                      rw [he]
                      rcases hbad with hb | hb
                      · rw [if_pos hb]
                      · split
                        · rfl
                        · rw [if_neg (fun x => hb x.1)]
                    rw [he0] at hR
                    simp [RN, v2, v3]
                    simp at hR
                    exact ⟨hk, hR.symm⟩
              · rw [if_neg h92] at hR
                have e92 : ((c.toNat : Int) != 92) = true := by simp; omega
                have b1 : out.length + 1 < 4611686018427387904 := by omega
                have s0 : (0 : Int) ≤ (i : Int) + 1 := by omega
                have s1 : (i : Int) + 1 ≤ (M.length : Int) := by omega
                have s2 : i ≤ i + 1 := by omega
                have s3 : (M.drop i).take 1 = [c] := by rw [hd]; rfl
                have s4 : i + 1 - i = 1 := by omega
                refine codeW_cond_true (by simp [e92]) ?_
                refine codeW_rs ?_
                have s5 : (i : Int) ≤ (i : Int) + 1 := by omega
                simp [-List.take_succ_cons, t5, t4, t6, hw1, hi0, s0, s1, s3, s4, s5, b1]
                refine codeW_exit ?_
                simp [RN, t4, t6]
                exact ⟨hk, i, by omega, by omega, rfl, by omega, hR⟩
          · rintro e t h ⟨hk, ⟨rfl, i, out, h1, h2, t4, t5, t6, hlo, hR⟩ | ⟨rfl, hR, t2, t3⟩⟩
            · simp only
              refine codeW_reg ?_
              have hw1 : IntKind.i64.wrap ((i : Int) + 1) = ((i + 1 : Nat) : Int) := by rw [wrap64 (by omega) (by omega)]; rfl
              simp [t6, hw1]
              exact ⟨m, Nat.lt_succ_self m, hk, i + 1, out, h1, h2, by simp [t4], by simp [t5], by simp, hlo, hR⟩
            · simp [RE, t2, t3, hR, hk]
        · have hlt' : ¬ (i : Int) < (M.length : Int) := by omega
          refine codeW_seq ?_
          refine codeW_rs ?_
          simp [t6, t4, hlt']
          refine codeW_cond_false (by simp) ?_
          refine codeW_exit ?_
          have hd : M.drop i = [] := List.drop_of_length_le (by omega)
          rw [hd] at hR
          have : qloop m [] out = some out := by cases m <;> rfl
          rw [this] at hR
          simp [RE, ← hR, t5, hk]
      · rintro e t h ⟨hk, ⟨rfl, out, rfl, t5⟩ | ⟨rfl, rfl, t2, t3⟩⟩
        · simp only
          refine codeW_rs ?_
          simp [t5]
          refine codeW_ret ?_
          simp
          exact hk
        · simp [t2, t3]
          exact hk
    · refine codeW_rs ?_
      have hz34' : ¬ (z.toNat : Int) = 34 := by omega
      simp [h2', ha, ha34, hw, hnn, htn, hz, hz34', h1n]
      refine codeW_cond_true (by simp [hz34']) ?_
      refine codeW_rs ?_
      simp
      refine codeW_ret ?_
      simp [unq, h2, ha, hz, hz34, Keep.refl]
  · refine codeW_rs ?_
    have ha34' : ((a.toNat : Int) != 34) = true := by simp; omega
    simp [h2', ha, ha34', hw, hnn, htn, hz, h1n]
    refine codeW_cond_true (by simp) ?_
    refine codeW_rs ?_
    simp
    refine codeW_ret ?_
    simp [unq, h2, ha, hz, ha34, Keep.refl]
end
end Go.AM
set_option linter.unusedSimpArgs false
set_option linter.unusedVariables false
namespace Go.AM
/-! ## ScriptQuotes on the abstract machine -/
theorem goes_true : ∀ (n : Nat) (s : List UInt8), Goes (fun _ => True) n s
  | 0, s => by simp [Goes]
  | n + 1, [] => by simp [Goes]
  | n + 1, c :: r => by
    simp only [Goes]
    split
    · trivial
    · split
      · exact ⟨fun _ => trivial, fun _ => goes_true n _⟩
      · exact goes_true n _
structure Pq (P : Program) : Prop extends Ps P (fun _ => True) ErrIn where
  f4 : FunIs P 4 a4
  f10 : FunIs P 10 a10
  awake : ∀ H : AH, CallR P 6 [] H (.bool true) H
section
variable {P : Program} (F : Pq P)
include F
theorem quotes_ok (H : AH) (hE : ErrIn H) (s : List UInt8) : CallW P 4 [.str s] H fun v _ => v = .bool true := by
  refine callW_fun F.hm F.f4 (by simp [a4]) ?_
  unfold a4
  refine codeW_rs ?_
  simp
  refine codeW_seq ?_
  refine codeW_rs ?_
  simp
  refine callThen_R (F.awake _) ?_
  simp
  refine codeW_cond_false (by simp) ?_
  refine codeW_skip ?_
  simp
  refine codeW_seq ?_
  refine codeW_rs ?_
  simp
  by_cases h2000 : 2000 < s.length
  · refine codeW_cond_true (by simp; omega) ?_
    refine codeW_rs ?_
    simp
    refine codeW_ret ?_
    simp
  refine codeW_cond_false (by simp; omega) ?_
  refine codeW_skip ?_
  simp
  refine codeW_rs ?_
  simp
  refine callThen_intro (quoted_ok F.toPs s (.inr (.inr (goes_true _ _))) (by omega) H hE) ?_
  rintro v h2 ⟨rfl, hk2⟩
  simp
  refine codeW_rs ?_
  simp
  refine callThen_intro (ref_ok F.hm F.f10 h2 (s := s) (by omega)) ?_
  rintro v h3 ⟨rfl, hk3⟩
  simp
  refine codeW_rs ?_
  simp
  refine codeW_ret ?_
  simp
end
end Go.AM
