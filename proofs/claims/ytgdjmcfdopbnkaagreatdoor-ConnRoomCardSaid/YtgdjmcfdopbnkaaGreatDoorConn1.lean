/-
  One connection in letters, first part: lines are read. No statement of the seat is in it.
-/
import Derived.Test.YtgdjmcfdopbnkaaGreatDoorAmBytes
import Derived.Test.YtgdjmcfdopbnkaaGreatDoorLit1
import Derived.Test.YtgdjmcfdopbnkaaGreatDoorLit2
import Derived.Test.YtgdjmcfdopbnkaaGreatDoorLit3
set_option linter.unusedSimpArgs false
set_option linter.unusedVariables false
set_option linter.unusedSimpArgs false
namespace Go.AM
section
variable {P : Program} (hm : P.follows .mixedOrders = true)
include hm

theorem ixb_ok (hf : FunIs P 215 a215) (h : AH) {b : AV} {s : List UInt8} (hs : textA h b = some s) : CallW P 215 [b, .int .u8 10] h fun v h' => h' = h ∧ v = .int .i64 (match s.findIdx? (· == 10) with | some i => (i : Int) | none => -1) := by
  refine callW_fun hm hf (by simp [a215]) ?_
  unfold a215
  refine codeW_rs ?_
  simp
  refine codeW_rs ?_
  simp [hs]
  cases s.findIdx? (· == 10) with
  | none =>
    simp
    refine codeW_ret ?_
    simp
  | some i =>
    simp
    refine codeW_ret ?_
    simp

theorem equal_ok (hf : FunIs P 387 a387) (h : AH) {i o n c i' o' n' c' es es' : Nat} {x x' : Bool} {s t : List UInt8} (ha : textA h (.sl i o n c x es) = some s) (hb : textA h (.sl i' o' n' c' x' es') = some t) :
    CallW P 387 [.sl i o n c x es, .sl i' o' n' c' x' es'] h fun v h' => h' = h ∧ v = .bool (s == t) := by
  refine callW_fun hm hf (by simp [a387]) ?_
  unfold a387
  refine codeW_rs ?_
  simp
  refine codeW_rs ?_
  simp [ha, hb]
  refine codeW_ret ?_
  simp

/-- Does a slice of bytes end with this byte? -/
theorem suff_ok (h387 : FunIs P 387 a387) (hf : FunIs P 355 a355) (h : AH) {i o n c j c' : Nat} {x x' : Bool} {s : List UInt8} {d : UInt8} (ha : Bytes h i o n s) (hn : n < 2^40)
    (hb : Bytes h j 0 1 [d]) :
    CallW P 355 [.sl i o n c x 1, .sl j 0 1 c' x' 1] h fun v h' => h' = h ∧ v = .bool (s.getLast? == some d) := by
  refine callW_fun hm hf (by simp [a355]) ?_
  unfold a355
  refine codeW_rs ?_
  simp
  refine codeW_rs ?_
  simp
  have hl := ha.1
  have hw : IntKind.i64.wrap ((n : Int) - 1) = (n : Int) - 1 := wrap64 (by omega) (by omega)
  by_cases h1 : (1 : Int) ≤ n
  · have h1' : 1 ≤ n := by omega
    have e1 : (n : Int) - 1 ≤ n := by omega
    simp [h1, hw, e1]
    have hsub := ha.sub (p := n - 1) (q := n) (by omega) (by omega)
    refine callThen_intro (equal_ok hm h387 h (hsub.text _ _) (hb.text _ _)) ?_
    rintro v h' ⟨rfl, rfl⟩
    simp
    refine codeW_ret ?_
    simp
    have : List.take (n - (n - 1)) (List.drop (n - 1) s) = match s.getLast? with | some y => [y] | none => [] := by
      have hne : s ≠ [] := by intro e; subst e; simp at hl; omega
      rw [List.getLast?_eq_some_getLast hne]
      have : s.drop (n - 1) = [s.getLast hne] := by
        rw [← hl]
        conv => lhs; rw [← List.dropLast_concat_getLast hne]
        rw [List.drop_append_of_le_length (by simp)]
        simp [← List.length_dropLast]
      rw [this]
      have : n - (n - 1) = 1 := by omega
      rw [this]; rfl
    rw [this]
    cases e : s.getLast? with
    | none =>
      have := List.getLast?_eq_none_iff.1 e
      subst this; simp at hl; omega
    | some y => simp
  · have h0 : n = 0 := by omega
    subst h0
    have : s = [] := List.length_eq_zero_iff.1 hl
    subst this
    simp
    refine codeW_ret ?_
    simp

theorem trims_ok (h387 : FunIs P 387 a387) (h355 : FunIs P 355 a355) (hf : FunIs P 294 a294) (h : AH) {i o n c j c' : Nat} {x x' : Bool} {s : List UInt8} {d : UInt8} (ha : Bytes h i o n s) (hn : n < 2^40) (hc : n ≤ c)
    (hb : Bytes h j 0 1 [d]) :
    CallW P 294 [.sl i o n c x 1, .sl j 0 1 c' x' 1] h fun v h' => h' = h ∧ v = .sl i o (if s.getLast? == some d then n - 1 else n) c x 1 := by
  refine callW_fun hm hf (by simp [a294]) ?_
  unfold a294
  refine codeW_rs ?_
  simp
  refine codeW_seq ?_
  refine codeW_rs ?_
  simp
  refine callThen_intro (suff_ok hm h387 h355 h ha hn hb) ?_
  rintro v h' ⟨rfl, rfl⟩
  simp
  cases e : (s.getLast? == some d)
  · refine codeW_cond_false (by simp) ?_
    refine codeW_skip ?_
    refine codeW_rs ?_
    simp
    refine codeW_ret ?_
    have e' : s.getLast? ≠ some d := by simpa using e
    simp [e']
  · refine codeW_cond_true (by simp) ?_
    have hl := ha.1
    have h1' : 1 ≤ n := by
      cases s with
      | nil => simp at e
      | cons a r => simp at hl; omega
    have hw : IntKind.i64.wrap ((n : Int) - 1) = (n : Int) - 1 := wrap64 (by omega) (by omega)
    have e1 : (0 : Int) ≤ (n : Int) - 1 := by omega
    have e2 : (n : Int) - 1 ≤ c := by omega
    refine codeW_rs ?_
    have e3 : (1 : Int) ≤ n := by omega
    simp [hw, e2, e3]
    refine codeW_ret ?_
    have e' : s.getLast? = some d := by simpa using e
    simp [e']

theorem trim_ok (h387 : FunIs P 387 a387) (h355 : FunIs P 355 a355) (h294 : FunIs P 294 a294) (hf : FunIs P 217 a217) (h : AH) {i o n c : Nat} {x : Bool} {s : List UInt8} (ha : Bytes h i o n s) (hn : n < 2^40) (hc : n ≤ c) (hi : i < h.next) :
    CallW P 217 [.sl i o n c x 1] h fun v h' => h' = h.new (.cells true false 5 [.int .u8 13]) ∧ v = .sl i o (if s.getLast? == some 13 then n - 1 else n) c x 1 := by
  refine callW_fun hm hf (by simp [a217]) ?_
  unfold a217
  refine codeW_rs ?_
  simp
  refine codeW_rs ?_
  simp [repl]
  have hne : i ≠ h.next := by omega
  have hb : Bytes (h.new (.cells true false 5 [.int .u8 13])) h.next 0 1 [13] := ⟨rfl, by simp [cellsOfBytes]⟩
  refine callThen_intro (trims_ok hm h387 h355 h294 _ (ha.congr (by simp [hne])) hn hc hb) ?_
  rintro v h' ⟨rfl, rfl⟩
  simp
  refine codeW_ret ?_
  simp

/-- A parser's block. -/
def parB (b : AV) (sk : Bool) (c : AV) (k : Int) : AB := .cells true false 155 [b, .bool sk, c, .int .i64 k]

theorem use_ok (hf : FunIs P 216 a216) (h : AH) {p i o n c : Nat} {x sk : Bool} {cm : AV} {k : Int} (hp : h.get p = some (parB (.sl i o n c x 1) sk cm k)) {m : Nat} (h1 : m ≤ n) :
    CallW P 216 [.ptr p 0, .int .i64 m] h fun v h' => h' = h.set p (parB (.sl i (o + m) (n - m) (c - m) x 1) sk cm k) ∧ v = .tup [] := by
  refine callW_fun hm hf (by simp [a216]) ?_
  unfold a216 parB at *
  refine codeW_reg ?_
  have e1 : (m : Int) ≤ n := by omega
  simp [hp, e1]

theorem pass_ok (hf : FunIs P 131 a131) (h : AH) {p : Nat} {b cm : AV} {k : Int} (hp : h.get p = some (parB b false cm k)) :
    CallW P 131 [.ptr p 0] h fun v h' => h' = h ∧ v = .bool true := by
  refine callW_fun hm hf (by simp [a131]) ?_
  unfold a131 parB at *
  refine codeW_rs ?_
  simp
  refine codeW_seq ?_
  refine codeW_rs ?_
  simp [hp]
  refine codeW_cond_true (by simp) ?_
  refine codeW_rs ?_
  simp
  refine codeW_ret ?_
  simp
end
end Go.AM
set_option linter.unusedSimpArgs false
namespace Go.AM
theorem findIdx_line (w rest : List UInt8) (hw : ∀ b ∈ w, b ≠ 10) : (w ++ 13 :: 10 :: rest).findIdx? (· == 10) = some (w.length + 1) := by
  induction w with
  | nil => simp [List.findIdx?_cons]
  | cons a r ih =>
    have ha : a ≠ 10 := hw a (List.mem_cons_self ..)
    have := ih fun b hb => hw b (List.mem_cons_of_mem _ hb)
    simp [List.findIdx?_cons, ha, this]

section
variable {P : Program} (hm : P.follows .mixedOrders = true)
include hm

theorem line_ok (h387 : FunIs P 387 a387) (h355 : FunIs P 355 a355) (h294 : FunIs P 294 a294) (h217 : FunIs P 217 a217) (h215 : FunIs P 215 a215) (h216 : FunIs P 216 a216) (hf : FunIs P 132 a132) (h : AH) {p i o n c d : Nat} {x : Bool} {k : Int} {w rest : List UInt8} {cv : AV}
    (hp : h.get p = some (parB (.sl i o n c x 1) false .nili k)) (hb : Bytes h i o n (w ++ 13 :: 10 :: rest)) (hn : n < 2^40) (hc : n ≤ c) (hi : i < h.next) (hpi : p < h.next) (hne : i ≠ p)
    (hw : ∀ b ∈ w, b ≠ 10) (hlen : w.length ≤ 2048) (hone : ∀ H : AH, h.next ≤ H.next → CallR P 218 [.str w] H (.tup [cv, .int .i64 (-1)]) (H.skip d)) :
    CallW P 132 [.ptr p 0] h fun v h' => h' = (((h.new (.cells true false 5 [.int .u8 13])).skip 7).set p (parB (.sl i (o + (w.length + 2)) (n - (w.length + 2)) (c - (w.length + 2)) x 1) false .nili k)).skip d ∧ v = .tup [cv, .bool true] := by
  have hl := hb.1
  simp only [List.length_append, List.length_cons] at hl
  refine callW_fun hm hf (by simp [a132]) ?_
  have hp1 : h.get p = some (.cells true false 155 [.sl i o n c x 1, .bool false, .nili, .int .i64 k]) := hp
  unfold a132
  refine codeW_rs ?_
  simp
  refine codeW_rs ?_
  simp [hp1]
  refine callThen_intro (ixb_ok hm h215 h (hb.text _ _)) ?_
  rintro v h2 ⟨hh, rfl⟩
  subst h2
  rw [findIdx_line w rest hw]
  simp
  refine codeW_seq ?_
  refine codeW_block ?_
  have e0 : ¬ ((w.length : Int) + 1 < 0) := by omega
  refine codeW_rs ?_
  simp [e0]
  refine codeW_cond_false (by simp) ?_
  refine codeW_rs ?_
  simp [e0]
  refine codeW_cond_false (by simp) ?_
  refine codeW_skip ?_
  simp
  refine codeW_rs ?_
  have e1 : (0 : Int) ≤ (w.length : Int) + 1 := by omega
  have e2 : (w.length : Int) + 1 ≤ c := by omega
  simp [hp1, e1, e2]
  have hs1 : Bytes h i o (w.length + 1) (w ++ [13]) := by
    have := hb.sub (p := 0) (q := w.length + 1) (by omega) (by omega)
    simpa [List.take_append, List.take_of_length_le] using this
  refine callThen_intro (trim_ok hm h387 h355 h294 h217 h hs1 (by omega) (by omega) hi) ?_
  rintro v h' ⟨rfl, rfl⟩
  simp
  have hs2 : Bytes (h.new (.cells true false 5 [.int .u8 13])) i o w.length w := by
    have := hb.sub (p := 0) (q := w.length) (by omega) (by omega)
    have h2 : i ≠ h.next := by omega
    exact Bytes.congr (by simpa [List.take_append] using this) (by simp [h2])
  have hg : ¬ (2048 : Int) < w.length := by omega
  have ht := hs2.text c x
  refine codeW_seq ?_
  refine codeW_draw ?_
  simp [evDraw, evDrawB, evAt, stable, ht, hg]
  have e3 : IntKind.i64.wrap ((w.length : Int) + 1 + 1) = ((w.length + 2 : Nat) : Int) := by rw [wrap64 (by omega) (by omega)]; omega
  have hpn : p ≠ h.next := by omega
  refine codeW_rs ?_
  simp [e3]
  refine callThen_intro (use_ok hm h216 _ (p := p) (i := i) (o := o) (n := n) (c := c) (x := x) (sk := false) (cm := .nili) (k := k) (m := w.length + 2) (by simp [hpn]; exact hp) (by omega)) ?_
  rintro v h2 ⟨hh, rfl⟩
  subst h2
  simp
  refine codeW_seq ?_
  refine codeW_rs ?_
  simp
  refine codeW_cond_false (by simp) ?_
  refine codeW_skip ?_
  simp
  refine codeW_rs ?_
  simp
  refine callThen_R (hone _ (by simp; omega)) ?_
  simp
  refine codeW_seq ?_
  refine codeW_rs ?_
  simp
  refine codeW_cond_true (by simp) ?_
  refine codeW_rs ?_
  simp
  refine codeW_ret ?_
  simp

theorem next_ok (h131 : FunIs P 131 a131) (hf : FunIs P 68 a68) (h : AH) {p : Nat} {b : AV} {k : Int} {t : Nat} {a : AV} {Q : AV → AH → Prop}
    (hp : h.get p = some (parB b false .nili k)) (hl : CallW P 132 [.ptr p 0] h fun v h' => v = .tup [.ifc t a, .bool true] ∧ Q v h') :
    CallW P 68 [.ptr p 0] h fun v h' => v = .tup [.ifc t a, .bool true] ∧ Q v h' := by
  refine callW_fun hm hf (by simp [a68]) ?_
  have hp1 : h.get p = some (.cells true false 155 [b, .bool false, .nili, .int .i64 k]) := hp
  unfold a68
  refine codeW_rs ?_
  simp
  refine codeW_seq ?_
  refine codeW_rs ?_
  simp
  refine callThen_intro (pass_ok hm h131 h hp) ?_
  rintro v h2 ⟨hh, rfl⟩
  subst h2
  simp
  refine codeW_cond_false (by simp) ?_
  refine codeW_skip ?_
  simp
  refine codeW_seq ?_
  refine codeW_rs ?_
  simp [hp1]
  refine codeW_cond_true (by simp) ?_
  refine codeW_rs ?_
  simp
  refine callThen_intro hl ?_
  rintro v h2 ⟨rfl, hq⟩
  simp
  refine codeW_rs ?_
  simp
  refine codeW_cond_true (by simp) ?_
  refine codeW_rs ?_
  simp
  refine codeW_ret ?_
  simp
  exact hq

/-- No line: nothing. -/
theorem next_none (h131 : FunIs P 131 a131) (hf : FunIs P 68 a68) (h : AH) {p : Nat} {b : AV} {k : Int} {Q : AH → Prop}
    (hp : h.get p = some (parB b false .nili k)) (hl : CallW P 132 [.ptr p 0] h fun v h' => v = .tup [.nili, .bool false] ∧ Q h') :
    CallW P 68 [.ptr p 0] h fun v h' => v = .tup [.nili, .bool false] ∧ Q h' := by
  refine callW_fun hm hf (by simp [a68]) ?_
  have hp1 : h.get p = some (.cells true false 155 [b, .bool false, .nili, .int .i64 k]) := hp
  unfold a68
  refine codeW_rs ?_
  simp
  refine codeW_seq ?_
  refine codeW_rs ?_
  simp
  refine callThen_intro (pass_ok hm h131 h hp) ?_
  rintro v h2 ⟨hh, rfl⟩
  subst h2
  simp
  refine codeW_cond_false (by simp) ?_
  refine codeW_skip ?_
  simp
  refine codeW_seq ?_
  refine codeW_rs ?_
  simp [hp1]
  refine codeW_cond_true (by simp) ?_
  refine codeW_rs ?_
  simp
  refine callThen_intro hl ?_
  rintro v h2 ⟨rfl, hq⟩
  simp
  refine codeW_rs ?_
  simp
  refine codeW_cond_true (by simp) ?_
  refine codeW_rs ?_
  simp
  refine codeW_ret ?_
  simp
  exact hq
end
end Go.AM
set_option linter.unusedSimpArgs false
set_option linter.unusedVariables false
namespace Go.AM
def ver : List UInt8 := [118,101,114,115,105,111,110]
def qui : List UInt8 := [113,117,105,116]
def verReply : List UInt8 := [86, 69, 82, 83, 73, 79, 78, 32, 99, 101, 108, 108, 97, 114, 101, 116, 13, 10]
def cmd (w : List UInt8) : AV := .agg [.str [119,111,114,100], .str w, .nils, .str [], .int .u32 0, .int .i64 0, .int .u64 0, .int .u64 0, .bool false, .bool false, .bool false, .bool false]
def cmd0 : AV := .agg [.str [], .str [], .nils, .str [], .int .u32 0, .int .i64 0, .int .u64 0, .int .u64 0, .bool false, .bool false, .bool false, .bool false]
def ansB : AB := .cells true false 89 [.bool false, .str [], .str [], .str [86, 69, 82, 83, 73, 79, 78, 32, 99, 101, 108, 108, 97, 114, 101, 116], .int .u32 0, .int .u64 0, .bool false]

/-- The functions by which one connection goes, as they are compiled. -/
structure Fs (P : Program) : Prop where
  hm : P.follows .mixedOrders = true
  f11 : FunIs P 11 a11
  f13 : FunIs P 13 a13
  f14 : FunIs P 14 a14
  f15 : FunIs P 15 a15
  f17 : FunIs P 17 a17
  f18 : FunIs P 18 a18
  f32 : FunIs P 32 a32
  f35 : FunIs P 35 a35
  f37 : FunIs P 37 a37
  f39 : FunIs P 39 a39
  f40 : FunIs P 40 a40
  f68 : FunIs P 68 a68
  f131 : FunIs P 131 a131
  f132 : FunIs P 132 a132
  f215 : FunIs P 215 a215
  f216 : FunIs P 216 a216
  f217 : FunIs P 217 a217
  f294 : FunIs P 294 a294
  f355 : FunIs P 355 a355
  f387 : FunIs P 387 a387
  one : ∀ w, w = ver ∨ w = qui → ∀ H : AH, NG ≤ H.next → CallR P 218 [.str w] H (.tup [.ifc 183 (.agg [.str w]), .int .i64 (-1)]) (H.skip 3)
  to : ∀ w, w = ver ∨ w = qui → ∀ H : AH, NG ≤ H.next → CallR P 69 [.ifc 183 (.agg [.str w])] H (cmd w) (H.skip 9)
  to0 : ∀ H : AH, NG ≤ H.next → CallR P 69 [.nili] H cmd0 (H.skip 9)
  quiet : ∀ w, w = ver ∨ w = qui → ∀ H : AH, NG ≤ H.next → CallR P 26 [cmd w] H (.bool false) (H.skip 7)
  dov : ∀ (H : AH) (s : Nat), NG ≤ H.next → s < H.next → CallR P 76 [.ptr s 0, cmd ver, .int .i64 0] H (.tup [.sl (H.next + 8) 0 1 1 true 7, .int .i64 0]) ((H.skip 9).set (H.next + 8) ansB)
  doq : ∀ (H : AH) (s : Nat), NG ≤ H.next → s < H.next → CallR P 76 [.ptr s 0, cmd qui, .int .i64 0] H (.tup [.nils, .int .i64 0]) (H.skip 7)
  allv : ∀ (H : AH) (l : Nat), NG ≤ H.next → l < H.next → H.get l = some ansB → CallR P 66 [.sl l 0 1 1 true 7] H (.sl (H.next + 3) 0 18 18 false 1) ((H.skip 4).set (H.next + 3) (.cells false false 5 (cellsOfBytes verReply)))
  allq : ∀ (H : AH), NG ≤ H.next → CallR P 66 [.nils] H .nils H

/-- All that lay stays as it was, but for these. -/
def Chg (S : List Nat) (h h' : AH) : Prop := h.next ≤ h'.next ∧ ∀ j, j < h.next → j ∉ S → h'.get j = h.get j
theorem Chg.trans {S : List Nat} {a b c : AH} (h : Chg S a b) (k : Chg S b c) : Chg S a c :=
  ⟨Nat.le_trans h.1 k.1, fun j hj hn => (k.2 j (Nat.lt_of_lt_of_le hj h.1) hn).trans (h.2 j hj hn)⟩
theorem Chg.mono {S T : List Nat} {a b : AH} (h : Chg S a b) (hs : ∀ x, x ∈ S → x ∈ T) : Chg T a b := ⟨h.1, fun j hj hn => h.2 j hj fun hx => hn (hs j hx)⟩

section
variable {P : Program} (F : Fs P)
include F
theorem Next_line (h : AH) {p i o n c : Nat} {x : Bool} {k : Int} {w rest : List UInt8}
    (hp : h.get p = some (parB (.sl i o n c x 1) false .nili k)) (hb : Bytes h i o n (w ++ 13 :: 10 :: rest)) (hn : n < 2^40) (hc : n ≤ c) (hi : i < h.next) (hpi : p < h.next) (hne : i ≠ p) (hng : NG ≤ h.next)
    (hw : w = ver ∨ w = qui) :
    CallW P 37 [.ptr p 0] h fun v h' => v = .tup [cmd w, .bool true] ∧ h'.get p = some (parB (.sl i (o + (w.length + 2)) (n - (w.length + 2)) (c - (w.length + 2)) x 1) false .nili k) ∧ Chg [p] h h' := by
  refine callW_fun F.hm F.f37 (by simp [a37]) ?_
  unfold a37
  refine codeW_rs ?_
  simp
  refine codeW_rs ?_
  simp
  have hpn : p ≠ h.next := by omega
  have hin : i ≠ h.next := by omega
  have hwn : ∀ b ∈ w, b ≠ 10 := by rcases hw with rfl | rfl <;> decide
  have hwl : w.length ≤ 2048 := by rcases hw with rfl | rfl <;> decide
  generalize hB : (AB.cells true false 37 [AV.str [], AV.str [], AV.nils, AV.str [], AV.int IntKind.u32 0, AV.int IntKind.i64 0, AV.int IntKind.u64 0, AV.int IntKind.u64 0, AV.bool false, AV.bool false, AV.bool false, AV.bool false]) = B0
  have hl := line_ok F.hm F.f387 F.f355 F.f294 F.f217 F.f215 F.f216 F.f132 (h.new B0) (p := p) (i := i) (o := o) (n := n) (c := c) (x := x) (k := k) (w := w) (rest := rest) (d := 3) (cv := .ifc 183 (.agg [.str w]))
    (by simp [hpn]; exact hp) (hb.congr (by simp [hin])) hn hc (by simp; omega) (by simp; omega) hne hwn hwl (fun H hH => F.one w hw H (by simp at hH; omega))
  refine callThen_intro (next_ok F.hm F.f131 F.f68 (h.new B0) (t := 183) (a := .agg [.str w]) (by simp [hpn]; exact hp) (hl.mono fun v h' ⟨e1, e2⟩ => ⟨e2, e1⟩)) ?_
  rintro v h2 ⟨rfl, hh⟩
  subst h2
  simp
  refine codeW_rs ?_
  simp
  refine callThen_R (F.to w hw _ (by simp; omega)) ?_
  have hnp : h.next ≠ p := by omega
  simp [hnp, ← hB, cmd]
  refine codeW_ret ?_
  simp
  refine ⟨by simp [hpn], by simp; omega, fun j hj hjp => ?_⟩
  simp only [List.mem_singleton] at hjp
  have h1 : j ≠ h.next := by omega
  have h2 : j ≠ h.next + 1 := by omega
  simp [h1, h2, hjp]
end
end Go.AM
