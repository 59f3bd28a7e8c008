/-
  strings.Builder, script.escape, script.Quoted in letters, on the abstract machine. No statement of the seat is in it.
-/
import Derived.Test.YtadcebncbpopdaaGreatDoorAmBytes
import Derived.Test.YtadcebncbpopdaaGreatDoorLit1
import Derived.Test.YtadcebncbpopdaaGreatDoorLit2
set_option linter.unusedSimpArgs false
set_option linter.unusedVariables false
set_option linter.unusedSimpArgs false
set_option linter.unusedVariables false
namespace Go.AM
/-- What lay below N is left as it was. -/
def Keep (N : Nat) (h h' : AH) : Prop := h.next ≤ h'.next ∧ ∀ j, j < N → h'.get j = h.get j
theorem Keep.refl (N : Nat) (h : AH) : Keep N h h := ⟨Nat.le_refl _, fun _ _ => rfl⟩
theorem Keep.trans {N : Nat} {a b c : AH} (h : Keep N a b) (k : Keep N b c) : Keep N a c := ⟨Nat.le_trans h.1 k.1, fun j hj => (k.2 j hj).trans (h.2 j hj)⟩
/-- A strings.Builder at b that holds this text. -/
def BB (N b : Nat) (H : AH) (out : List UInt8) : Prop := N ≤ b ∧ b < H.next ∧ ∃ a v, H.get b = some (.cells true false 53 [a, v]) ∧ (a = .nilp ∨ a = .ptr b 0) ∧
  ((v = .nils ∧ out = []) ∨ ∃ l, v = .sl l 0 out.length out.length false 1 ∧ l ≠ b ∧ N ≤ l ∧ l < H.next ∧ H.get l = some (.cells false false 5 (cellsOfBytes out)) ∧ 0 < out.length)
theorem app_nils (K : AH) {t : List UInt8} (ht : 0 < t.length) (hb : t.length < 2 ^ 38) :
    appendA K 5 1 1 .nils t.length (cellsOfBytes t) = some (.sl K.next 0 t.length t.length false 1, K.new (.cells false false 5 (cellsOfBytes t))) := by
  have h0 : t.length ≠ 0 := by omega
  have h1 : t.length * (1 + 1) ≤ 2 ^ 40 := by omega
  simp only [appendA, h0, if_false, h1, if_true]
theorem app_sl (K : AH) {l : Nat} {out t : List UInt8} (hg : K.get l = some (.cells false false 5 (cellsOfBytes out))) (ht : 0 < t.length) (hb : out.length + t.length < 2 ^ 39) :
    appendA K 5 1 1 (.sl l 0 out.length out.length false 1) t.length (cellsOfBytes t) =
      some (.sl K.next 0 (out ++ t).length (out ++ t).length false 1, (K.del l).new (.cells false false 5 (cellsOfBytes (out ++ t)))) := by
  have hr : readCells K l 0 (out.length * 1) = some (cellsOfBytes out) := by
    simp [readCells, hg, AB.cs, cut, cells_length, List.take_of_length_le]
  have hall : (cellsOfBytes t).all AV.one = true := cells_one t
  have h0 : t.length ≠ 0 := by omega
  have h1 : (out.length + t.length) * (1 + 1) ≤ 2 ^ 40 := by omega
  have h2 : ¬ (out.length + t.length ≤ out.length) := by omega
  simp only [appendA, h0, h1, h2, hr, hg, hall, Bool.false_eq_true, if_false, and_self, if_true, cells_append, List.length_append]
/-- The text of a Builder grows. -/
theorem BB.grow {N b : Nat} {H K : AH} {out t : List UInt8} {v : AV} (hN : N ≤ b) (hb : b < H.next) (hg : K.get b = some (.cells true false 53 [.ptr b 0, v])) (hn : H.next ≤ K.next) (hk : ∀ j, j < H.next → j ≠ b → K.get j = H.get j)
    (hv : (v = .nils ∧ out = []) ∨ ∃ l, v = .sl l 0 out.length out.length false 1 ∧ l ≠ b ∧ N ≤ l ∧ l < H.next ∧ H.get l = some (.cells false false 5 (cellsOfBytes out)) ∧ 0 < out.length)
    (ht : 0 < t.length) (hbd : out.length + t.length < 2 ^ 38) :
    ∃ v' K', appendA K 5 1 1 v t.length (cellsOfBytes t) = some (v', K') ∧ v'.cells = [v'] ∧ v'.one = true ∧ K'.get b = some (.cells true false 53 [.ptr b 0, v]) ∧
      BB N b (K'.set b (.cells true false 53 [.ptr b 0, v'])) (out ++ t) ∧ Keep N H (K'.set b (.cells true false 53 [.ptr b 0, v'])) := by
  rcases hv with ⟨rfl, rfl⟩ | ⟨l, rfl, hlb, hNl, hl, hgl, hpos⟩
  · refine ⟨_, _, app_nils K ht (by omega), rfl, rfl, ?_, ⟨hN, ?_, .ptr b 0, .sl K.next 0 ([] ++ t).length ([] ++ t).length false 1, by rw [AH.get_set, if_pos rfl]; rfl, .inr rfl, .inr ⟨K.next, rfl, by omega, by omega, ?_, ?_, by simpa using ht⟩⟩, by simp; omega, ?_⟩
    · have : b ≠ K.next := by omega
      simp [this, hg]
    · simp; omega
    · simp
    · have : K.next ≠ b := by omega
      simp [this]
    · intro j hj
      have h1 : j ≠ b := by omega
      have h2 : j ≠ K.next := by omega
      simp [h1, h2]
      exact hk j (by omega) h1
  · have hgl' : K.get l = some (.cells false false 5 (cellsOfBytes out)) := (hk l hl hlb).trans hgl
    refine ⟨_, _, app_sl K hgl' ht (by omega), rfl, rfl, ?_, ⟨hN, ?_, .ptr b 0, _, by rw [AH.get_set, if_pos rfl], .inr rfl, .inr ⟨K.next, rfl, by omega, by omega, ?_, ?_, ?_⟩⟩, by simp; omega, ?_⟩
    · have h1 : b ≠ K.next := by omega
      have h2 : b ≠ l := fun e => hlb e.symm
      simp [h1, h2, hg]
    · simp; omega
    · simp
    · have : K.next ≠ b := by omega
      simp [this]
    · simp; omega
    · intro j hj
      have h1 : j ≠ b := by omega
      have h2 : j ≠ K.next := by omega
      have h3 : j ≠ l := by omega
      simp [h1, h2, h3]
      exact hk j (by omega) h1
section
variable {P : Program} (hm : P.follows .mixedOrders = true)
include hm
theorem cc_ok (hf : FunIs P 29 a29) (H : AH) {b : Nat} {a v : AV} (hg : H.get b = some (.cells true false 53 [a, v])) (ha : a = .nilp ∨ a = .ptr b 0) :
    CallW P 29 [.ptr b 0] H fun u h' => u = .tup [] ∧ (h' = H ∧ a = .ptr b 0 ∨ h' = H.set b (.cells true false 53 [.ptr b 0, v])) := by
  refine callW_fun hm hf (by simp [a29]) ?_
  unfold a29
  rcases ha with rfl | rfl
  · refine codeW_rs ?_
    simp [hg]
    refine codeW_cond_true (by simp) ?_
    refine codeW_reg ?_
    simp [hg]
  · refine codeW_rs ?_
    simp [hg]
    refine codeW_cond_false (by simp) ?_
    refine codeW_rs ?_
    simp [hg]
    refine codeW_cond_false (by simp) ?_
    refine codeW_skip ?_
    simp
theorem wb_ok (h29 : FunIs P 29 a29) (hf : FunIs P 20 a20) (H : AH) {N b : Nat} {out : List UInt8} (hB : BB N b H out) (c : UInt8) (hl : out.length + 1 < 2 ^ 38) :
    CallW P 20 [.ptr b 0, .int .u8 c.toNat] H fun v h' => v = .nili ∧ BB N b h' (out ++ [c]) ∧ Keep N H h' := by
  refine callW_fun hm hf (by simp [a20]) ?_
  obtain ⟨hN, hb, a, v, hg, ha, hv⟩ := hB
  unfold a20
  refine codeW_rs ?_
  simp
  refine codeW_rs ?_
  simp
  refine callThen_intro (cc_ok hm h29 H hg ha) ?_
  rintro u h2 ⟨rfl, hh⟩
  have hg2 : h2.get b = some (.cells true false 53 [.ptr b 0, v]) ∧ h2.next = H.next ∧ ∀ j, j ≠ b → h2.get j = H.get j := by
    rcases hh with ⟨rfl, rfl⟩ | rfl
    · exact ⟨hg, rfl, fun _ _ => rfl⟩
    · exact ⟨by simp, by simp, fun j hj => by simp [hj]⟩
  obtain ⟨hg2, hn2, hk2⟩ := hg2
  clear hh
  simp
  refine codeW_rs ?_
  simp [hg2, repl]
  have hB0 : Bytes (h2.new (.cells true false 5 [.int .u8 c.toNat])) h2.next 0 1 [c] := Bytes.of_get (x := true) (fz := false) (e := 5) (s := [c]) 0 (by simp [cellsOfBytes]) rfl (Nat.zero_le _)
  rw [hB0.elems]
  simp only
  obtain ⟨v', K', e1, e2, e3, e4, e5, e6⟩ := BB.grow (N := N) (H := H) (K := h2.new (.cells true false 5 [.int .u8 c.toNat])) (out := out) (t := [c]) hN hb (by have : b ≠ h2.next := by omega
                                                                                                                                                                simp [this, hg2]) (by simp; omega)
    (fun j hj hjb => by have : j ≠ h2.next := by omega
                        simp [this]; exact hk2 j hjb) hv (by simp) (by simp; omega)
  have e1' : appendA (h2.new (.cells true false 5 [.int .u8 c.toNat])) 5 1 1 v 1 (cellsOfBytes [c]) = some (v', K') := e1
  rw [e1']
  simp [e2, e3, e4]
  refine codeW_rs ?_
  simp
  refine codeW_ret ?_
  simp
  exact ⟨e5, e6⟩
theorem ws_ok (h29 : FunIs P 29 a29) (hf : FunIs P 16 a16) (H : AH) {N b : Nat} {out : List UInt8} (hB : BB N b H out) {t : List UInt8} (ht : 0 < t.length) (hl : out.length + t.length < 2 ^ 38) :
    CallW P 16 [.ptr b 0, .str t] H fun v h' => v = .tup [.int .i64 t.length, .nili] ∧ BB N b h' (out ++ t) ∧ Keep N H h' := by
  refine callW_fun hm hf (by simp [a16]) ?_
  obtain ⟨hN, hb, a, v, hg, ha, hv⟩ := hB
  unfold a16
  refine codeW_rs ?_
  simp
  refine codeW_rs ?_
  simp
  refine callThen_intro (cc_ok hm h29 H hg ha) ?_
  rintro u h2 ⟨rfl, hh⟩
  have hg2 : h2.get b = some (.cells true false 53 [.ptr b 0, v]) ∧ h2.next = H.next ∧ ∀ j, j ≠ b → h2.get j = H.get j := by
    rcases hh with ⟨rfl, rfl⟩ | rfl
    · exact ⟨hg, rfl, fun _ _ => rfl⟩
    · exact ⟨by simp, by simp, fun j hj => by simp [hj]⟩
  obtain ⟨hg2, hn2, hk2⟩ := hg2
  clear hh
  simp
  refine codeW_rs ?_
  simp [hg2, repl]
  obtain ⟨v', K', e1, e2, e3, e4, e5, e6⟩ := BB.grow (N := N) (H := H) (K := h2) (out := out) (t := t) hN hb hg2 (by omega) (fun j hj hjb => hk2 j hjb) hv ht hl
  have hel : elemsA h2 1 (.str t) = some (t.length, cellsOfBytes t) := rfl
  simp only [hel, e1]
  simp [e2, e3, e4]
  refine codeW_rs ?_
  simp
  refine codeW_ret ?_
  simp
  exact ⟨e5, e6⟩
/-- What a Builder holds, as a text; the Builder is not used again. -/
theorem str_ok (hf : FunIs P 18 a18) (H : AH) {N b : Nat} {out : List UInt8} (hB : BB N b H out) (hl : out.length < 2 ^ 39) :
    CallW P 18 [.ptr b 0] H fun v h' => v = .str out ∧ Keep N H h' := by
  refine callW_fun hm hf (by simp [a18]) ?_
  obtain ⟨hN, hb, a, v, hg, ha, hv⟩ := hB
  unfold a18
  refine codeW_rs ?_
  simp
  refine codeW_seq ?_
  rcases hv with ⟨rfl, rfl⟩ | ⟨l, rfl, hlb, hNl, hl', hgl, hpos⟩
  · refine codeW_draw0 ?_
    simp [hg]
    refine codeW_ret ?_
    simp
    exact ⟨Nat.le_add_right _ _, fun j hj => rfl⟩
  · refine codeW_draw0 ?_
    have h1 : out ≠ [] := fun e => by simp [e] at hpos
    have h2 : (out.length : Int) ≤ 1099511627776 := by omega
    simp [hg, hgl, hpos, h1, h2, bytesOf_cells, cells_length, List.take_of_length_le]
    refine codeW_ret ?_
    simp
    refine ⟨by simp, fun j hj => ?_⟩
    have : j ≠ l := by omega
    simp [this]
end
end Go.AM
set_option linter.unusedSimpArgs false
set_option linter.unusedVariables false
namespace Go.AM
/-- An octal digit. -/
def isOct (c : UInt8) : Bool := 48 ≤ c.toNat && c.toNat ≤ 55
/-- What digits say. -/
def octV : List UInt8 → Nat → Nat
  | [], v => v
  | c :: r, v => octV r (8 * v + (c.toNat - 48))
theorem wrapu8 {x : Int} (h1 : 0 ≤ x) (h2 : x < 256) : IntKind.u8.wrap x = x := by
  have : IntKind.u8.wrap x = x % 256 := by simp [IntKind.wrap, IntKind.bits, IntKind.signed]
  rw [this]; omega
theorem wrapu64 {x : Int} (h1 : 0 ≤ x) (h2 : x < 2^64) : IntKind.u64.wrap x = x := by
  have : IntKind.u64.wrap x = x % 2^64 := by simp [IntKind.wrap, IntKind.bits, IntKind.signed]
  rw [this]; omega
/-- What stands behind a backslash: what it says, and how many letters it takes; none where it says nothing. -/
def escP : List UInt8 → List UInt8 × Nat
  | [] => ([], 0)
  | c :: r => if c.toNat = 115 then ([32], 1) else if c.toNat = 110 then ([13, 10], 1) else if c.toNat = 92 ∨ c.toNat = 34 then ([c], 1) else
      if (c :: r).length < 3 then ([], 0) else if ((c :: r).take 3).all isOct = true ∧ octV ((c :: r).take 3) 0 ≤ 255 then ([UInt8.ofNat (octV ((c :: r).take 3) 0)], 3) else ([], 0)
/-- Does the walk meet a number here? -/
def escN : List UInt8 → Bool
  | [] => false
  | c :: r => !(c.toNat = 115 ∨ c.toNat = 110 ∨ c.toNat = 92 ∨ c.toNat = 34 ∨ (c :: r).length < 3)
/-- What a number's three letters come to. -/
def PuV (t : List UInt8) (v : AV) : Prop := if t.all isOct = true then v = .tup [.int .u64 (octV t 0), .nili] else ∃ i, v = .tup [.int .u64 0, .ifc 230 (.ptr i 0)]
structure Ps (P : Program) (Q : List UInt8 → Prop) (R : AH → Prop) : Prop where
  rn : ∀ H, R H → NG + 1 ≤ H.next
  rk : ∀ H H', R H → Keep (NG + 1) H H' → R H'
  hm : P.follows .mixedOrders = true
  f8 : FunIs P 8 a8
  f16 : FunIs P 16 a16
  f18 : FunIs P 18 a18
  f19 : FunIs P 19 a19
  f20 : FunIs P 20 a20
  f29 : FunIs P 29 a29
  pu : ∀ t : List UInt8, t.length = 3 → Q t → ∀ H : AH, R H → CallW P 50 [.str t, .int .i64 8, .int .i64 64] H fun v h' => PuV t v ∧ Keep H.next H h'
  ca : ∀ t : List UInt8, t.length = 3 → t.all isOct = true → octV t 0 ≤ 255 → ∀ H : AH, NG + 1 ≤ H.next → CallW P 51 [.str t, .str [95, 43, 45]] H fun v h' => v = .bool false ∧ Keep H.next H h'
section
variable {P : Program} {Q : List UInt8 → Prop} {R : AH → Prop} (F : Ps P Q R)
include F
theorem esc_ok (s : List UInt8) (hq : escN s = true → Q (s.take 3)) (hl : s.length < 2 ^ 40) (H : AH) (hR : R H) :
    CallW P 19 [.str s] H fun v h' => v = .tup [.str (escP s).1, .int .i64 (escP s).2] ∧ Keep H.next H h' := by
  have hH := F.rn H hR
  refine callW_fun F.hm F.f19 (by simp [a19]) ?_
  unfold a19
  refine codeW_rs ?_
  simp
  refine codeW_seq ?_
  refine codeW_rs ?_
  simp
  cases s with
  | nil =>
    refine codeW_cond_true (by simp) ?_
    refine codeW_rs ?_
    simp
    refine codeW_ret ?_
    simp [escP, Keep.refl]
  | cons c r =>
    refine codeW_cond_false (by simp) ?_
    refine codeW_skip ?_
    refine codeW_seq ?_
    refine codeW_rs ?_
    simp
    refine codeW_block ?_
    refine codeW_rs ?_
    simp
    by_cases h1 : c.toNat = 115
    · refine codeW_cond_true (by simp [h1]) ?_
      refine codeW_rs ?_
      simp
      refine codeW_ret ?_
      simp [escP, h1, Keep.refl]
    have h1' : ¬ ((c.toNat : Int) = 115) := by omega
    refine codeW_cond_false (by simp [h1']) ?_
    refine codeW_rs ?_
    simp
    by_cases h2 : c.toNat = 110
    · refine codeW_cond_true (by simp [h2]) ?_
      refine codeW_rs ?_
      simp
      refine codeW_ret ?_
      simp [escP, h1, h2, Keep.refl]
    have h2' : ¬ ((c.toNat : Int) = 110) := by omega
    refine codeW_cond_false (by simp [h2']) ?_
    refine codeW_seq ?_
    refine codeW_rs ?_
    simp
    have c92 : UInt8.toNat 92 = 92 := rfl
    by_cases h3 : c.toNat = 92 ∨ c.toNat = 34
    · refine CodeW.mono (Q := fun e t h => e = .normal ∧ h = H ∧ t.get 0 = some (.str (c :: r)) ∧ t.get 14 = some (.bool true)) ?_ ?_
      · by_cases h4 : c.toNat = 92
        · refine codeW_cond_true (by simp [h4]) ?_
          refine codeW_skip ?_
          simp [h4]
        · have h5 : c.toNat = 34 := by omega
          refine codeW_cond_false (by simp [h5]) ?_
          refine codeW_reg ?_
          simp [h5]
      · rintro e t h ⟨rfl, rfl, t0, t14⟩
        simp only
        refine codeW_cond_true t14 ?_
        refine codeW_rs ?_
        have hq1 : (1 : Int) ≤ (r.length : Int) + 1 := by omega
        simp [t0, hq1]
        refine codeW_ret ?_
        simp [escP, h1, h2, h3, Keep.refl]
    have h3' : ¬ ((c.toNat : Int) = 92) := by omega
    have h4' : ¬ ((c.toNat : Int) = 34) := by omega
    refine CodeW.mono (Q := fun e t h => e = .normal ∧ h = H ∧ t.get 0 = some (.str (c :: r)) ∧ t.get 14 = some (.bool false)) ?_ ?_
    · refine codeW_cond_false (by simp [h3']) ?_
      refine codeW_reg ?_
      simp [h4']
    rintro e t h ⟨rfl, rfl, t0, t14⟩
    simp only
    refine codeW_cond_false t14 ?_
    refine codeW_skip ?_
    simp
    refine codeW_seq ?_
    refine codeW_rs ?_
    simp [t0]
    by_cases hr : r.length < 2
    · refine codeW_cond_true (by simp; omega) ?_
      refine codeW_rs ?_
      simp
      refine codeW_ret ?_
      have : r.length + 1 < 3 := by omega
      simp [escP, h1, h2, h3, this, Keep.refl]
    refine codeW_cond_false (by simp; omega) ?_
    refine codeW_skip ?_
    refine codeW_rs ?_
    have hq3 : (3 : Int) ≤ (r.length : Int) + 1 := by omega
    generalize hT : (c :: r).take 3 = T at hq
    have hT3 : T.length = 3 := by rw [← hT]; simp; omega
    have hr3 : ¬ r.length + 1 < 3 := by omega
    have hqT : Q T := hq (by simp [escN, h1, h2, hr3]; omega)
    have hE : escP (c :: r) = if T.all isOct = true ∧ octV T 0 ≤ 255 then ([UInt8.ofNat (octV T 0)], 3) else ([], 0) := by
      rw [← hT]
      simp only [escP, h1, h2, h3, if_false, List.length_cons, hr3]
    rw [hE]
    clear hE
    generalize hEE : (if T.all isOct = true ∧ octV T 0 ≤ 255 then ([UInt8.ofNat (octV T 0)], 3) else ([], 0)) = E
    simp [t0, hq3, hT]
    refine callThen_intro (F.pu T hT3 hqT h hR) ?_
    rintro v h2 ⟨hv, hk⟩
    unfold PuV at hv
    by_cases hoct : T.all isOct = true
    · rw [if_pos hoct] at hv
      subst hv
      by_cases h255 : octV T 0 ≤ 255
      · rw [if_pos ⟨hoct, h255⟩] at hEE
        subst hEE
        simp
        refine codeW_seq ?_
        refine codeW_rs ?_
        have hgt : ¬ ((255 : Int) < (octV T 0 : Int)) := by omega
        simp [t0, hq3, hT, hgt]
        refine callThen_intro (F.ca T hT3 hoct h255 h2 (by have := hk.1; omega)) ?_
        rintro v h3 ⟨rfl, hk3⟩
        simp
        refine codeW_cond_false (by simp) ?_
        refine codeW_skip ?_
        refine codeW_rs ?_
        have hw : IntKind.u8.wrap (octV T 0) = octV T 0 := wrapu8 (by omega) (by omega)
        have hu : (octV T 0 : Int) = ((UInt8.ofNat (octV T 0)).toNat : Int) := by
          rw [UInt8.toNat_ofNat', Nat.mod_eq_of_lt (by omega)]
        have hB0 : Bytes (h3.new (.cells true false 5 [.int .u8 (octV T 0)])) h3.next 0 1 [UInt8.ofNat (octV T 0)] := by
          rw [hu]
          exact Bytes.of_get (x := true) (fz := false) (e := 5) (s := [UInt8.ofNat (octV T 0)]) 0 (by simp [cellsOfBytes]) rfl (Nat.zero_le _)
        simp [hw, repl, hB0.text]
        refine codeW_ret ?_
        simp
        exact hk.trans ⟨by have := hk3.1; simp; omega, fun j hj => by
          have h1 := hk.1
          have h2' := hk3.1
          have : j ≠ h3.next := by omega
          simp [this]
          exact hk3.2 j (by omega)⟩
      · rw [if_neg (fun h => h255 h.2)] at hEE
        subst hEE
        simp
        refine codeW_seq ?_
        refine codeW_rs ?_
        have hgt : (255 : Int) < (octV T 0 : Int) := by omega
        simp [t0, hgt]
        refine codeW_cond_true (by simp) ?_
        refine codeW_rs ?_
        simp
        refine codeW_ret ?_
        simp
        exact hk
    · rw [if_neg hoct] at hv
      rw [if_neg (fun h => hoct h.1)] at hEE
      subst hEE
      obtain ⟨i, rfl⟩ := hv
      simp
      refine codeW_seq ?_
      refine codeW_rs ?_
      simp
      refine codeW_cond_true (by simp) ?_
      refine codeW_rs ?_
      simp
      refine codeW_ret ?_
      simp
      exact hk
end
end Go.AM
set_option linter.unusedSimpArgs false
set_option linter.unusedVariables false
namespace Go.AM
/-- The text between the quotes, letter by letter. -/
def qloop : Nat → List UInt8 → List UInt8 → Option (List UInt8)
  | _, [], out => some out
  | 0, _ :: _, _ => none
  | n + 1, c :: r, out => if c.toNat = 32 ∨ c.toNat = 34 then none else if c.toNat = 92 then (if (escP r).2 = 0 then none else qloop n (r.drop (escP r).2) (out ++ (escP r).1)) else qloop n r (out ++ [c])
/-- What is asked of the numbers that the walk meets. -/
def Goes (Q : List UInt8 → Prop) : Nat → List UInt8 → Prop
  | 0, _ => True
  | _ + 1, [] => True
  | n + 1, c :: r => if c.toNat = 32 ∨ c.toNat = 34 then True else if c.toNat = 92 then (escN r = true → Q (r.take 3)) ∧ ((escP r).2 ≠ 0 → Goes Q n (r.drop (escP r).2)) else Goes Q n r
def unq (s : List UInt8) : Option (List UInt8) :=
  if s.length < 2 then none else if (s[0]?).map UInt8.toNat = some 34 ∧ (s[s.length - 1]?).map UInt8.toNat = some 34 then qloop s.length ((s.drop 1).take (s.length - 2)) [] else none
theorem escP_len (r : List UInt8) : (escP r).1.length ≤ 2 ∧ (escP r).2 ≤ r.length ∧ ((escP r).2 ≠ 0 → 0 < (escP r).1.length) := by
  cases r with
  | nil => simp [escP]
  | cons c r =>
    simp only [escP]
    split
    · simp
    · split
      · simp
      · split
        · simp
        · split
          · simp
          · split
            · simp only [List.length_cons] at *
              refine ⟨by simp, by omega, by simp⟩
            · simp
/-- What holds ahead of each letter. -/
def QI (Q : List UInt8 → Prop) (N b : Nat) (H : AH) (R : Option (List UInt8)) (m : Nat) (t : Tm) (h : AH) : Prop :=
  Keep N H h ∧ ∃ s out, s.length ≤ m ∧ t.get 0 = some (.str s) ∧ t.get 4 = some (.ptr b 0) ∧ BB N b h out ∧ out.length + 2 * s.length < 2 ^ 36 ∧ qloop m s out = R ∧ Goes Q m s
theorem Keep.le {N M : Nat} {h h' : AH} (k : Keep M h h') (l : N ≤ M) : Keep N h h' := ⟨k.1, fun j hj => k.2 j (by omega)⟩
theorem BB.keep {N b : Nat} {h h' : AH} {out : List UInt8} (hB : BB N b h out) (k : Keep h.next h h') : BB N b h' out := by
  obtain ⟨hN, hb, a, v, hg, ha, hv⟩ := hB
  refine ⟨hN, Nat.lt_of_lt_of_le hb k.1, a, v, (k.2 b hb).trans hg, ha, ?_⟩
  rcases hv with h | ⟨l, e, h1, h2, h3, h4, h5⟩
  · exact .inl h
  · exact .inr ⟨l, e, h1, h2, Nat.lt_of_lt_of_le h3 k.1, (k.2 l h3).trans h4, h5⟩
/-- What holds behind the letters. -/
def QE (N b : Nat) (H : AH) (R : Option (List UInt8)) (e : Ex) (t : Tm) (h : AH) : Prop :=
  Keep N H h ∧ ((e = .normal ∧ ∃ out, R = some out ∧ BB N b h out ∧ out.length < 2 ^ 36 ∧ t.get 4 = some (.ptr b 0)) ∨ (e = .ret ∧ R = none ∧ t.get 2 = some (.str []) ∧ t.get 3 = some (.bool false)))
section
variable {P : Program} {Q : List UInt8 → Prop} {RR : AH → Prop} (F : Ps P Q RR)
include F
theorem quoted_ok (s : List UInt8) (hq : s.length < 2 ∨ (s[s.length - 1]?).map UInt8.toNat ≠ some 34 ∨ Goes Q s.length ((s.drop 1).take (s.length - 2))) (hl : s.length < 2 ^ 30) (H : AH) (hRH : RR H) :
    CallW P 8 [.str s] H fun v h' => v = .tup [.str ((unq s).getD []), .bool (unq s).isSome] ∧ Keep H.next H h' := by
  have hH := F.rn H hRH
  refine callW_fun F.hm F.f8 (by simp [a8]) ?_
  unfold a8
  refine codeW_rs ?_
  simp
  refine codeW_seq ?_
  by_cases h2 : s.length < 2
  · refine codeW_rs ?_
    have h2' : (s.length : Int) < 2 := by omega
    simp [h2']
    refine codeW_cond_true (by simp) ?_
    refine codeW_rs ?_
    simp
    refine codeW_ret ?_
    simp [unq, h2, Keep.refl]
  obtain ⟨a, ha⟩ : ∃ a, s[0]? = some a := ⟨s[0]'(by omega), List.getElem?_eq_getElem (by omega)⟩
  obtain ⟨z, hz⟩ : ∃ z, s[s.length - 1]? = some z := ⟨s[s.length - 1]'(by omega), List.getElem?_eq_getElem (by omega)⟩
  have h2' : ¬ (s.length : Int) < 2 := by omega
  have hw : IntKind.i64.wrap ((s.length : Int) - 1) = (s.length : Int) - 1 := wrap64 (by omega) (by omega)
  have hnn : (0 : Int) ≤ (s.length : Int) - 1 := by omega
  have htn : ((s.length : Int) - 1).toNat = s.length - 1 := by omega
  have h1n : (1 : Int) ≤ (s.length : Int) := by omega
  by_cases ha34 : a.toNat = 34
  · by_cases hz34 : z.toNat = 34
    · refine codeW_rs ?_
      simp [h2', ha, ha34, hw, hnn, htn, hz, hz34, h1n]
      refine codeW_cond_false (by simp) ?_
      refine codeW_skip ?_
      refine codeW_rs ?_
      have h12 : (1 : Int) ≤ (s.length : Int) - 1 := by omega
      have h13 : (s.length : Int) - 1 ≤ (s.length : Int) := by omega
      have h14 : s.length - 1 - 1 = s.length - 2 := by omega
      have h15 : ((s.length : Int) - 1 - 1).toNat = s.length - 2 := by omega
      have h16 : (1 : Int) ≤ ((s.length - 1 : Nat) : Int) := by omega
      simp [hw, htn, h12, h13, h14, h15, h1n, h16]
      have hgo := (hq.resolve_left h2).resolve_left (fun h => h (by rw [hz]; simp [hz34]))
      have hun : unq s = qloop s.length ((s.drop 1).take (s.length - 2)) [] := by
        rw [unq, if_neg h2, if_pos (by simp [ha, hz, ha34, hz34])]
      rw [hun]
      clear hun
      generalize hR : qloop s.length ((s.drop 1).take (s.length - 2)) [] = R
      have hlM : ((s.drop 1).take (s.length - 2)).length ≤ s.length := by simp; omega
      generalize hM : (s.drop 1).take (s.length - 2) = M at hR hgo hlM
      simp only [List.drop_one] at hM
      simp only [hM]
      refine codeW_rs ?_
      simp
      refine codeW_seq ?_
      refine CodeW.mono (Q := QE H.next H.next H R) ?_ ?_
      · refine codeW_block ?_
        refine codeW_loop (I := QI Q H.next H.next H R) (n := s.length) ?_ ?_
        · clear hR hgo hlM hM ha hz
          rintro m t h ⟨hk, s', out, hsm, t0, t4, hB, hlo, hR, hgo⟩
          cases s' with
          | nil =>
            refine codeW_seq ?_
            refine codeW_rs ?_
            simp [t0]
            refine codeW_cond_false (by simp) ?_
            refine codeW_exit ?_
            have : qloop m [] out = some out := by cases m <;> rfl
            rw [this] at hR
            simp [QE, ← hR, t4, hk, hB]
            simp at hlo
            omega
          | cons c r =>
            obtain ⟨m, rfl⟩ : ∃ m', m = m' + 1 := ⟨m - 1, by simp at hsm; omega⟩
            simp only [List.length_cons] at hsm hlo
            refine codeW_seq ?_
            refine codeW_rs ?_
            have hpos : (0 : Int) < (r.length : Int) + 1 := by omega
            simp [t0, hpos]
            refine codeW_cond_true (by simp) ?_
            refine codeW_skip ?_
            simp
            refine codeW_block ?_
            refine codeW_rs ?_
            simp [t0]
            refine codeW_block ?_
            refine codeW_seq ?_
            refine codeW_rs ?_
            simp
            simp only [qloop] at hR
            simp only [Goes] at hgo
            by_cases h32 : c.toNat = 32 ∨ c.toNat = 34
            · rw [if_pos h32] at hR
              refine CodeW.mono (Q := fun e t' h' => e = .normal ∧ h' = h ∧ t'.get 38 = some (.bool true)) ?_ ?_
              · by_cases h4 : c.toNat = 32
                · refine codeW_cond_true (by simp [h4]) ?_
                  refine codeW_skip ?_
                  simp [h4]
                · have h5 : c.toNat = 34 := by omega
                  refine codeW_cond_false (by simp [h5]) ?_
                  refine codeW_reg ?_
                  simp [h5]
              · rintro e t h ⟨rfl, rfl, t38⟩
                simp only
                refine codeW_cond_true t38 ?_
                refine codeW_rs ?_
                simp
                refine codeW_ret ?_
                simp [QE, ← hR]
                exact hk
            rw [if_neg h32] at hR hgo
            have h3' : ¬ ((c.toNat : Int) = 32) := by omega
            have h4' : ¬ ((c.toNat : Int) = 34) := by omega
            refine CodeW.mono (Q := fun e t' h' => e = .normal ∧ h' = h ∧ t'.get 38 = some (.bool false) ∧ t'.get 0 = some (.str (c :: r)) ∧ t'.get 4 = some (.ptr H.next 0) ∧ t'.get 32 = some (.int .u8 c.toNat)) ?_ ?_
            · refine codeW_cond_false (by simp [h3']) ?_
              refine codeW_reg ?_
              simp [h4', t0, t4]
            clear t0 t4 t
            rintro e t h' ⟨rfl, rfl, t38, t0, t4, t32⟩
            simp only
            refine codeW_cond_false t38 ?_
            refine codeW_rs ?_
            simp [t32]
            by_cases h92 : c.toNat = 92
            · rw [if_pos h92] at hR hgo
              refine codeW_cond_true (by simp [h92]) ?_
              refine codeW_rs ?_
              have hr1 : (1 : Int) ≤ (r.length : Int) + 1 := by omega
              simp [t0, hr1]
              refine callThen_intro (esc_ok F r hgo.1 (by omega) h' (F.rk H h' hRH (hk.le hH))) ?_
              rintro v h3 ⟨rfl, hk3⟩
              have hB3 : BB H.next H.next h3 out := hB.keep hk3
              have hkk : Keep H.next H h3 := hk.trans (hk3.le hk.1)
              obtain ⟨e1, e2, e3⟩ := escP_len r
              generalize escP r = E at hR hgo e1 e2 e3
              obtain ⟨et, en⟩ := E
              simp only at e1 e2 e3 hR hgo
              simp
              refine codeW_seq ?_
              refine codeW_rs ?_
              simp
              by_cases hen : en = 0
              · rw [if_pos hen] at hR
                refine codeW_cond_true (by simp [hen]) ?_
                refine codeW_rs ?_
                simp
                refine codeW_ret ?_
                simp [QE, ← hR]
                exact hkk
              rw [if_neg hen] at hR
              have hen' : ¬ ((en : Int) = 0) := by omega
              refine codeW_cond_false (by simp [hen]) ?_
              refine codeW_skip ?_
              simp
              refine codeW_rs ?_
              simp [t4]
              refine callThen_intro (ws_ok F.hm F.f29 F.f16 h3 hB3 (t := et) (e3 hen) (by omega)) ?_
              rintro v h4 ⟨rfl, hB4, hk4⟩
              simp
              refine codeW_reg ?_
              have hw1 : IntKind.i64.wrap (1 + (en : Int)) = 1 + (en : Int) := wrap64 (by omega) (by omega)
              have hw2 : (0 : Int) ≤ 1 + (en : Int) := by omega
              have hw3 : 1 + (en : Int) ≤ (r.length : Int) + 1 := by omega
              have hw4 : (1 + (en : Int)).toNat = en + 1 := by omega
              simp [t0, hw1, hw2, hw3, hw4]
              exact ⟨m, Nat.lt_succ_self m, hkk.trans hk4, r.drop en, out ++ et, by simp; omega, by simp; exact List.take_of_length_le (by simp), by simp [t4], hB4, by simp; omega, hR, hgo.2 hen⟩
            · rw [if_neg h92] at hR hgo
              have h92' : ¬ ((c.toNat : Int) = 92) := by omega
              refine codeW_cond_false (by simp [h92']) ?_
              refine codeW_rs ?_
              simp [t0, t4]
              refine callThen_intro (wb_ok F.hm F.f29 F.f20 h' hB c (by omega)) ?_
              rintro v h3 ⟨rfl, hB3, hk3⟩
              simp
              refine codeW_reg ?_
              have hr1 : (1 : Int) ≤ (r.length : Int) + 1 := by omega
              simp [t0, hr1]
              exact ⟨m, Nat.lt_succ_self m, hk.trans hk3, r, out ++ [c], by omega, by simp, by simp [t4], hB3, by simp; omega, hR, hgo⟩
        · refine ⟨⟨by simp, fun j hj => by
            have : j ≠ H.next := by omega
            simp [this]⟩, M, [], hlM, by simp, by simp, ⟨Nat.le_refl _, by simp, .nilp, .nils, by simp, .inl rfl, .inl ⟨rfl, rfl⟩⟩, by simp; omega, hR, hgo⟩
      · rintro e t h ⟨hk, ⟨rfl, out, rfl, hB, hlo, t4⟩ | ⟨rfl, rfl, t2, t3⟩⟩
        · simp only
          refine codeW_rs ?_
          simp [t4]
          refine callThen_intro (str_ok F.hm F.f18 h hB (by omega)) ?_
          rintro v h2 ⟨rfl, hk2⟩
          simp
          refine codeW_ret ?_
          simp
          exact hk.trans hk2
        · simp [t2, t3]
          exact hk
    · refine codeW_rs ?_
      have hz34' : ¬ (z.toNat : Int) = 34 := by omega
      simp [h2', ha, ha34, hw, hnn, htn, hz, hz34', h1n]
      refine codeW_cond_true (by simp [hz34']) ?_
      refine codeW_rs ?_
      simp
      refine codeW_ret ?_
      simp [unq, h2, ha, hz, hz34, Keep.refl]
  · refine codeW_rs ?_
    have ha34' : ((a.toNat : Int) != 34) = true := by simp; omega
    simp [h2', ha, ha34', hw, hnn, htn, hz, h1n]
    refine codeW_cond_true (by simp) ?_
    refine codeW_rs ?_
    simp
    refine codeW_ret ?_
    simp [unq, h2, ha, hz, ha34, Keep.refl]
end
end Go.AM
