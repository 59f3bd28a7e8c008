/-
  Bytes in octal digits; the law ScriptBack on the abstract machine, in letters.
-/
import Derived.Test.YtadcebncbpopdaaGreatDoorBack1
set_option linter.unusedSimpArgs false
set_option linter.unusedVariables false
set_option linter.unusedSimpArgs false
set_option linter.unusedVariables false
namespace Go.AM
/-! ## Bytes in octal digits -/
def dg (c : UInt8) : List UInt8 := [UInt8.ofNat (48 + c.toNat / 64), UInt8.ofNat (48 + c.toNat / 8 % 8), UInt8.ofNat (48 + c.toNat % 8)]
def escs : List UInt8 → List UInt8
  | [] => []
  | c :: r => 92 :: dg c ++ escs r
def Qo (t : List UInt8) : Prop := t.all isOct = true ∧ octV t 0 ≤ 255
theorem byte_lt (c : UInt8) : c.toNat < 256 := c.toNat_lt
theorem dg_toNat (c : UInt8) : (UInt8.ofNat (48 + c.toNat / 64)).toNat = 48 + c.toNat / 64 ∧ (UInt8.ofNat (48 + c.toNat / 8 % 8)).toNat = 48 + c.toNat / 8 % 8 ∧ (UInt8.ofNat (48 + c.toNat % 8)).toNat = 48 + c.toNat % 8 := by
  have := byte_lt c
  refine ⟨?_, ?_, ?_⟩ <;> rw [UInt8.toNat_ofNat', Nat.mod_eq_of_lt (by omega)]
theorem dg_oct (c : UInt8) : (dg c).all isOct = true := by
  obtain ⟨h1, h2, h3⟩ := dg_toNat c
  have := byte_lt c
  simp only [dg, List.all_cons, List.all_nil, isOct, h1, h2, h3, Bool.and_true, Bool.and_eq_true, decide_eq_true_eq]
  omega
theorem dg_val (c : UInt8) : octV (dg c) 0 = c.toNat := by
  obtain ⟨h1, h2, h3⟩ := dg_toNat c
  have := byte_lt c
  simp only [dg, octV, h1, h2, h3]
  omega
theorem escP_dg (c : UInt8) (r : List UInt8) : escP (dg c ++ r) = ([c], 3) := by
  obtain ⟨h1, h2, h3⟩ := dg_toNat c
  have hb := byte_lt c
  have e1 : (dg c ++ r).take 3 = dg c := by simp [dg]
  have e2 : ¬ (dg c ++ r).length < 3 := by simp [dg]
  have hx : dg c ++ r = UInt8.ofNat (48 + c.toNat / 64) :: (dg c ++ r).tail := by simp [dg]
  rw [hx]
  simp only [escP]
  rw [← hx, h1, if_neg (by omega), if_neg (by omega), if_neg (by omega), if_neg e2, e1, if_pos ⟨dg_oct c, by rw [dg_val]; omega⟩, dg_val]
  simp
theorem dg_len (c : UInt8) : (dg c).length = 3 := rfl
theorem escs_len : ∀ s : List UInt8, (escs s).length = 4 * s.length
  | [] => rfl
  | c :: r => by simp [escs, escs_len r, dg_len]; omega
theorem escs_append : ∀ s t : List UInt8, escs (s ++ t) = escs s ++ escs t
  | [], t => rfl
  | c :: r, t => by simp [escs, escs_append r t]
theorem qloop_escs : ∀ (s out : List UInt8) (n : Nat), s.length ≤ n → qloop n (escs s) out = some (out ++ s)
  | [], out, n, _ => by cases n <;> simp [escs, qloop]
  | c :: r, out, n + 1, h => by
    have hd : (dg c ++ escs r).drop 3 = escs r := by simp [dg]
    simp only [escs, List.cons_append, qloop]
    rw [if_neg (by decide), if_pos (by decide), escP_dg, if_neg (by simp)]
    simp only [hd]
    rw [qloop_escs r (out ++ [c]) n (by simp at h; omega)]
    simp
theorem goes_escs : ∀ (s : List UInt8) (n : Nat), Goes Qo n (escs s)
  | [], n => by cases n <;> simp [escs, Goes]
  | c :: r, 0 => by simp [Goes]
  | c :: r, n + 1 => by
    have hd : (dg c ++ escs r).drop 3 = escs r := by simp [dg]
    have ht : (dg c ++ escs r).take 3 = dg c := by simp [dg]
    simp only [escs, List.cons_append, Goes]
    rw [if_neg (by decide), if_pos (by decide), escP_dg]
    simp only [hd, ht]
    exact ⟨fun _ => ⟨dg_oct c, by rw [dg_val]; have := byte_lt c; omega⟩, fun _ => goes_escs r n⟩
theorem unq_back (s : List UInt8) : unq (34 :: escs s ++ [34]) = some s := by
  have hl : (34 :: escs s ++ [34]).length = (escs s).length + 2 := by simp
  have h0 : (34 :: escs s ++ [34])[0]? = some 34 := by simp
  have hz : (34 :: escs s ++ [34])[(34 :: escs s ++ [34]).length - 1]? = some 34 := by
    rw [hl]
    simp
  have hm : ((34 :: escs s ++ [34]).drop 1).take ((34 :: escs s ++ [34]).length - 2) = escs s := by rw [hl]; simp
  rw [unq, if_neg (by omega), if_pos ⟨by rw [h0]; rfl, by rw [hz]; rfl⟩, hm, qloop_escs _ _ _ (by rw [hl, escs_len]; omega)]
  simp
theorem goes_back (s : List UInt8) : Goes Qo (34 :: escs s ++ [34]).length (((34 :: escs s ++ [34]).drop 1).take ((34 :: escs s ++ [34]).length - 2)) := by
  have hm : ((34 :: escs s ++ [34]).drop 1).take ((34 :: escs s ++ [34]).length - 2) = escs s := by simp
  rw [hm]; exact goes_escs _ _
theorem last_escs (c : UInt8) (r : List UInt8) : (escs (r ++ [c])) = escs r ++ 92 :: dg c := by rw [escs_append]; simp [escs]
/-- Without the second quote it is no text in quotes. -/
theorem open_last (s : List UInt8) : (34 :: escs s).length < 2 ∨ ((34 :: escs s)[(34 :: escs s).length - 1]?).map UInt8.toNat ≠ some 34 := by
  rcases List.eq_nil_or_concat s with rfl | ⟨r, c, rfl⟩
  · left; simp [escs]
  · right
    rw [List.concat_eq_append, last_escs]
    obtain ⟨h1, h2, h3⟩ := dg_toNat c
    have : (34 :: (escs r ++ 92 :: dg c))[(34 :: (escs r ++ 92 :: dg c)).length - 1]? = some (UInt8.ofNat (48 + c.toNat % 8)) := by
      have : 34 :: (escs r ++ 92 :: dg c) = (34 :: (escs r ++ [92, UInt8.ofNat (48 + c.toNat / 64), UInt8.ofNat (48 + c.toNat / 8 % 8)])) ++ [UInt8.ofNat (48 + c.toNat % 8)] := by simp [dg]
      rw [this, List.length_append]
      simp
    rw [this]
    simp only [Option.map_some, h3]
    intro h
    simp only [Option.some.injEq] at h
    omega
theorem unq_open (s : List UInt8) : unq (34 :: escs s) = none := by
  rcases open_last s with h | h
  · rw [unq, if_pos h]
  · unfold unq
    split
    · rfl
    · rw [if_neg (fun k => h k.2)]
end Go.AM
set_option linter.unusedSimpArgs false
set_option linter.unusedVariables false
namespace Go.AM
/-! ## ScriptBack on the abstract machine -/
/-- The text of a digit. -/
def numCall (K : Nat) : CallH := fun f args h => match f, args with
  | 11, [.int .i64 d] => if 0 ≤ d ∧ d < 8 ∧ NG ≤ h.next then some (.str [UInt8.ofNat (48 + d.toNat)], h.skip K) else none
  | _, _ => none
theorem numCall_ok {P : Program} {K : Nat} (hN : ∀ d : Nat, d < 8 → ∀ H : AH, NG ≤ H.next → CallR P 11 [.int .i64 d] H (.str [UInt8.ofNat (48 + d)]) (H.skip K)) : CallOk P (numCall K) := by
  intro f args h v h' e
  unfold numCall at e
  split at e
  · rename_i d
    split at e
    · rename_i hh
      cases e
      obtain ⟨h1, h2, h3⟩ := hh
      have hd : ((d.toNat : Nat) : Int) = d := by omega
      have c := hN d.toNat (by omega) h h3
      rw [hd] at c
      exact ⟨c.1, fun μ g w cargs hg s ha => (c.2 μ g w cargs hg s ha).mono fun _ _ ⟨v, h', v', μ', ⟨e1, e2⟩, r⟩ => by subst e1; subst e2; exact ⟨v', μ', r⟩⟩
    · cases e
  · cases e
theorem numCall_at {K : Nat} {d : Nat} {h : AH} (hd : d < 8) (hh : NG ≤ h.next) : numCall K 11 [.int .i64 (d : Int)] h = some (.str [UInt8.ofNat (48 + d)], h.skip K) := by
  simp only [numCall]
  rw [if_pos ⟨by omega, by omega, hh⟩]
  rfl
theorem codeW_drawN {P : Program} {nt : Nat} {callH : CallH} (hC : CallOk P callH) (need : List Nat) {l : List AOper} {conf : List (Nat × Nat)} {t : Tm} {h : AH} {Q : Ex → Tm → AH → Prop}
    (w : wpS callH nt h.next need (fun acc t h => stableL acc conf = true ∧ Q .normal t h) 0 l t (h.skip l.length) []) : CodeW P nt (.draw l conf) t h Q := by
  obtain ⟨st, t', h', acc, e, ⟨hs, q⟩, hm⟩ := evDraw_ofS l 0 t _ [] w
  refine codeW_det (F := 0) hC ?_
  have es : ({ h with next := h.next + l.length } : AH) = h.skip l.length := rfl
  simp only [Ran, evCode, evCodeB, es]
  rw [e]
  have := stable_of (st := st) (fun i s hi => by simpa using (hm i s hi).2) conf hs
  simp only [this, if_true]
  exact q
theorem all_bytes {p : Nat → Bool} (h : (List.range 256).all p = true) (c : UInt8) : p c.toNat = true := List.all_eq_true.1 h _ (List.mem_range.2 (byte_lt c))
theorem shr_byte (c : UInt8) (k : Nat) : shiftA .shr (.int .u8 c.toNat) (.int .u64 (k : Nat)) = some (.int .u8 ((c.toNat / 2 ^ min k 8 : Nat) : Int)) := by
  simp only [shiftA]
  rw [if_neg (by omega)]
  have : IntKind.u8.bits = 8 := rfl
  rw [this]
  simp only [Int.toNat_natCast]
  rw [Int.fdiv_eq_ediv_of_nonneg _ (by exact_mod_cast Nat.zero_le _)]
  simp
set_option maxRecDepth 20000 in
theorem and7 (n : Nat) (h : n < 256) : bitsA .and (.int .u8 (n : Nat)) (.int .u8 7) = some (.int .u8 ((n % 8 : Nat) : Int)) := by
  have : (List.range 256).all (fun n => match bitsA .and (.int .u8 (n : Nat)) (.int .u8 7) with | some (.int .u8 x) => x == ((n % 8 : Nat) : Int) | _ => false) = true := by decide
  have := List.all_eq_true.1 this n (List.mem_range.2 h)
  split at this
  · rename_i x e
    rw [e]
    simp at this
    rw [this]
    simp
  · cases this
structure Pb (P : Program) (K : Nat) : Prop extends Ps P Qo where
  f5 : FunIs P 5 a5
  awake : ∀ H : AH, CallR P 6 [] H (.bool true) H
  num : ∀ d : Nat, d < 8 → ∀ H : AH, NG ≤ H.next → CallR P 11 [.int .i64 d] H (.str [UInt8.ofNat (48 + d)]) (H.skip K)
def BI (A : AV) (s : List UInt8) (H : AH) (m : Nat) (t : Tm) (h : AH) : Prop :=
  Keep H.next H h ∧ ∃ i : Nat, i ≤ s.length ∧ m = s.length - i ∧ t.get 0 = some A ∧ t.get 3 = some (.str (34 :: escs (s.take i))) ∧ t.get 4 = some (.int .i64 i)
section
variable {P : Program} {K : Nat} (F : Pb P K)
include F
theorem back_ok (H : AH) (hH : NG + 1 ≤ H.next) {l : Nat} {s : List UInt8} {e : TypeId} (hg : H.get l = some (.ro e (cellsOfBytes s))) (hlH : l < H.next) :
    CallW P 5 [.sl l 0 s.length s.length false 1] H fun v _ => v = .bool true := by
  refine callW_fun F.hm F.f5 (by simp [a5]) ?_
  unfold a5
  refine codeW_rs ?_
  simp
  refine codeW_seq ?_
  refine codeW_rs ?_
  simp
  refine callThen_R (F.awake _) ?_
  simp
  refine codeW_cond_false (by simp) ?_
  refine codeW_skip ?_
  simp
  refine codeW_seq ?_
  refine codeW_rs ?_
  simp
  by_cases h500 : 500 < s.length
  · refine codeW_cond_true (by simp; omega) ?_
    refine codeW_rs ?_
    simp
    refine codeW_ret ?_
    simp
  refine codeW_cond_false (by simp; omega) ?_
  refine codeW_skip ?_
  refine codeW_rs ?_
  simp
  refine codeW_seq ?_
  refine codeW_rs ?_
  simp
  refine CodeW.mono (Q := fun e t h => e = .normal ∧ Keep H.next H h ∧ t.get 0 = some (.sl l 0 s.length s.length false 1) ∧ t.get 3 = some (.str (34 :: escs s))) ?_ ?_
  · refine codeW_block ?_
    refine codeW_loop (I := BI (.sl l 0 s.length s.length false 1) s H) (n := s.length) ?_ ?_
    · rintro m t h ⟨hk, i, hi, rfl, t0, t3, t4⟩
      have hgh : h.get l = some (.ro e (cellsOfBytes s)) := (hk.2 l hlH).trans hg
      refine codeW_seq ?_
      refine codeW_rs ?_
      simp [t0, t4]
      by_cases hlt : i < s.length
      · refine codeW_cond_true (by simp [hlt]) ?_
        refine codeW_skip ?_
        simp
        refine codeW_seq ?_
        refine codeW_block ?_
        obtain ⟨c, hc⟩ : ∃ c, s[i]? = some c := ⟨s[i]'hlt, List.getElem?_eq_getElem hlt⟩
        have hcell : (cellsOfBytes s)[i]? = some (.int .u8 c.toNat) := by simp [cellsOfBytes, hc]
        have hld : ∀ k : AH, k.get l = some (.ro e (cellsOfBytes s)) → loadA k 1 false (.ptr l i) = some (.int .u8 c.toNat) := by
          intro k hk
          have hlen : i + 1 ≤ (cellsOfBytes s).length := by rw [cells_length]; omega
          simp only [loadA, readCells, hk, AB.cs, cut]
          simp only [Bool.false_eq_true, if_false]
          rw [if_pos hlen]
          simp only [List.head?_take, List.head?_drop, hcell]
          rfl
        refine CodeW.mono (Q := fun e t' h' => e = .normal ∧ Keep H.next H h' ∧ t'.get 0 = some (.sl l 0 s.length s.length false 1) ∧ t'.get 3 = some (.str (34 :: escs (s.take (i + 1)))) ∧ t'.get 4 = some (.int .i64 i)) ?_ ?_
        · refine codeW_drawN (numCall_ok F.num) [8, 13, 17, 22] ?_
          have hil : (i : Int) < s.length := by omega
          have hb := byte_lt c
          have hnx : NG ≤ h.next := by have := hk.1; omega
          have q1 : shiftA .shr (.int .u8 c.toNat) (.int .u64 6) = some (.int .u8 ((c.toNat / 64 : Nat) : Int)) := shr_byte c 6
          have q2 : shiftA .shr (.int .u8 c.toNat) (.int .u64 3) = some (.int .u8 ((c.toNat / 8 : Nat) : Int)) := shr_byte c 3
          have q3 : bitsA .and (.int .u8 ((c.toNat / 8 : Nat) : Int)) (.int .u8 7) = some (.int .u8 ((c.toNat / 8 % 8 : Nat) : Int)) := and7 _ (by omega)
          have q4 : bitsA .and (.int .u8 (c.toNat : Int)) (.int .u8 7) = some (.int .u8 ((c.toNat % 8 : Nat) : Int)) := and7 _ hb
          have w1 : IntKind.i64.wrap ((c.toNat / 64 : Nat) : Int) = ((c.toNat / 64 : Nat) : Int) := wrap64 (by omega) (by omega)
          have w2 : IntKind.i64.wrap ((c.toNat / 8 % 8 : Nat) : Int) = ((c.toNat / 8 % 8 : Nat) : Int) := wrap64 (by omega) (by omega)
          have w3 : IntKind.i64.wrap ((c.toNat % 8 : Nat) : Int) = ((c.toNat % 8 : Nat) : Int) := wrap64 (by omega) (by omega)
          have n1 : ∀ k : AH, NG ≤ k.next → numCall K 11 [.int .i64 ((c.toNat / 64 : Nat) : Int)] k = some (.str [UInt8.ofNat (48 + c.toNat / 64)], k.skip K) := fun k hk => numCall_at (by omega) hk
          have n2 : ∀ k : AH, NG ≤ k.next → numCall K 11 [.int .i64 ((c.toNat / 8 % 8 : Nat) : Int)] k = some (.str [UInt8.ofNat (48 + c.toNat / 8 % 8)], k.skip K) := fun k hk => numCall_at (by omega) hk
          have n3 : ∀ k : AH, NG ≤ k.next → numCall K 11 [.int .i64 ((c.toNat % 8 : Nat) : Int)] k = some (.str [UInt8.ofNat (48 + c.toNat % 8)], k.skip K) := fun k hk => numCall_at (by omega) hk
          generalize numCall K = NC at n1 n2 n3
          have hE : (escs (s.take i)).length ≤ 2000 := by rw [escs_len]; simp; omega
          have hEs : escs (s.take (i + 1)) = escs (s.take i) ++ [92, UInt8.ofNat (48 + c.toNat / 64), UInt8.ofNat (48 + c.toNat / 8 % 8), UInt8.ofNat (48 + c.toNat % 8)] := by
            have : s.take (i + 1) = s.take i ++ [c] := by rw [List.take_add_one, hc]; rfl
            rw [this, last_escs]; rfl
          rw [hEs]
          generalize escs (s.take i) = E at t3 hE
          generalize UInt8.ofNat (48 + c.toNat / 64) = D1 at n1
          generalize UInt8.ofNat (48 + c.toNat / 8 % 8) = D2 at n2
          generalize UInt8.ofNat (48 + c.toNat % 8) = D3 at n3
          have b1 : E.length + 1 + 1 < 4611686018427387904 := by omega
          have b2 : E.length + 1 + 1 + 1 < 4611686018427387904 := by omega
          have b3 : E.length + 1 + 1 + 1 + 1 < 4611686018427387904 := by omega
          have b4 : E.length + 1 + 1 + 1 + 1 + 1 < 4611686018427387904 := by omega
          have m1 : ∀ a, NG ≤ h.next + a := fun a => by omega
          have m2 : ∀ a b, NG ≤ h.next + a + b := fun a b => by omega
          have m3 : ∀ a b c, NG ≤ h.next + a + b + c := fun a b c => by omega
          have n1 := n1 (h.skip 28) (m1 28)
          have n2 := n2 ((h.skip 28).skip K) (m2 28 K)
          have n3 := n3 (((h.skip 28).skip K).skip K) (m3 28 K K)
          simp [-loadA, -Int.natCast_ediv, -Int.natCast_emod, t0, t3, t4, hil, hld, hgh, q1, q2, q3, q4, w1, w2, w3, b1, b2, b3, b4, n1, n2, n3, m1, m2, m3]
          refine ⟨by simp [sameV, AV.beq], ?_, fun j hj => hk.2 j hj⟩
          have h1 := hk.1
          change H.next ≤ h.next + 28 + K + K + K
          omega
        · rintro e t' h' ⟨rfl, hk', t0', t3', t4'⟩
          simp only
          refine codeW_reg ?_
          have hw : IntKind.i64.wrap ((i : Int) + 1) = ((i + 1 : Nat) : Int) := by rw [wrap64 (by omega) (by omega)]; rfl
          simp [t4', hw]
          exact ⟨s.length - (i + 1), by omega, hk', i + 1, hlt, rfl, by simp [t0'], by simp [t3'], by simp⟩
      · refine codeW_cond_false (by simp [hlt]) ?_
        refine codeW_exit ?_
        have : i = s.length := by omega
        subst this
        simp [t0, t3, hk]
    · refine ⟨Keep.refl _ _, 0, Nat.zero_le _, rfl, by simp, by simp [escs], by simp⟩
  · rintro e t h ⟨rfl, hk, t0, t3⟩
    have hE : (escs s).length ≤ 2000 := by rw [escs_len]; omega
    have b1 : (escs s).length + 1 + 1 < 4611686018427387904 := by omega
    simp only
    refine codeW_rs ?_
    simp [t3, b1]
    refine callThen_intro (quoted_ok F.toPs (34 :: escs s ++ [34]) (.inr (.inr (goes_back s))) (by simp; omega) h (by have := hk.1; omega)) ?_
    rintro v h2 ⟨rfl, hk2⟩
    rw [unq_back]
    simp
    refine codeW_rs ?_
    simp [t3]
    refine callThen_intro (quoted_ok F.toPs (34 :: escs s) ((open_last s).imp id .inl) (by simp; omega) h2 (by have := hk.1; have := hk2.1; omega)) ?_
    rintro v h3 ⟨rfl, hk3⟩
    rw [unq_open]
    simp
    refine codeW_rs ?_
    have hg3 : h3.get l = some (.ro e (cellsOfBytes s)) := by
      rw [hk3.2 l (by have := hk.1; have := hk2.1; omega), hk2.2 l (by have := hk.1; omega), hk.2 l hlH, hg]
    have htx : textA h3 (.sl l 0 s.length s.length false 1) = some s := by
      have hr : readCells h3 l 0 s.length = some (cellsOfBytes s) := by
        simp [readCells, hg3, AB.cs, cut, cells_length, List.take_of_length_le]
      rw [textA, if_pos rfl, hr]; exact bytesOf_cells s
    simp [t0, htx]
    refine codeW_ret ?_
    simp
end
end Go.AM
