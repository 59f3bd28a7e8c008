/-
  One connection in letters, second part: bytes come, a step. No statement of the seat is in it.
-/
import Derived.Test.YtgdjmcfdopbnkaaGreatDoorConn1
set_option linter.unusedSimpArgs false
set_option linter.unusedVariables false
set_option linter.unusedSimpArgs false
set_option linter.unusedVariables false
namespace Go.AM
section
variable {P : Program} (F : Fs P)
include F
theorem line_none (h : AH) {p i o c : Nat} {x : Bool} {k : Int}
    (hp : h.get p = some (parB (.sl i o 0 c x 1) false .nili k)) (hb : Bytes h i o 0 []) (hi : i < h.next) :
    CallW P 132 [.ptr p 0] h fun v h' => v = .tup [.nili, .bool false] ∧ h' = h.new (.cells true false 5 [.int .u8 13]) := by
  refine callW_fun F.hm F.f132 (by simp [a132]) ?_
  have hp1 : h.get p = some (.cells true false 155 [.sl i o 0 c x 1, .bool false, .nili, .int .i64 k]) := hp
  unfold a132
  refine codeW_rs ?_
  simp
  refine codeW_rs ?_
  simp [hp1]
  refine callThen_intro (ixb_ok F.hm F.f215 h (hb.text _ _)) ?_
  rintro v h2 ⟨hh, rfl⟩
  subst h2
  simp
  refine codeW_seq ?_
  refine codeW_block ?_
  refine codeW_rs ?_
  simp [hp1]
  refine callThen_intro (trim_ok F.hm F.f387 F.f355 F.f294 F.f217 h hb (by decide) (Nat.zero_le _) hi) ?_
  rintro v h2 ⟨hh, rfl⟩
  subst h2
  simp
  refine codeW_cond_false (by simp) ?_
  refine codeW_rs ?_
  simp
  refine codeW_cond_true (by simp) ?_
  refine codeW_rs ?_
  simp
  refine codeW_ret ?_
  simp

theorem Next_none (h : AH) {p i o c : Nat} {x : Bool} {k : Int}
    (hp : h.get p = some (parB (.sl i o 0 c x 1) false .nili k)) (hb : Bytes h i o 0 []) (hi : i < h.next) (hpi : p < h.next) (hng : NG ≤ h.next) :
    CallW P 37 [.ptr p 0] h fun v h' => v = .tup [cmd0, .bool false] ∧ Chg [] h h' := by
  refine callW_fun F.hm F.f37 (by simp [a37]) ?_
  unfold a37
  refine codeW_rs ?_
  simp
  refine codeW_rs ?_
  simp
  have hpn : p ≠ h.next := by omega
  have hin : i ≠ h.next := by omega
  generalize hB : (AB.cells true false 37 [AV.str [], AV.str [], AV.nils, AV.str [], AV.int IntKind.u32 0, AV.int IntKind.i64 0, AV.int IntKind.u64 0, AV.int IntKind.u64 0, AV.bool false, AV.bool false, AV.bool false, AV.bool false]) = B0
  have hl := line_none F (h.new B0) (p := p) (i := i) (o := o) (c := c) (x := x) (k := k) (by simp [hpn]; exact hp) (hb.congr (by simp [hin])) (by simp; omega)
  refine callThen_intro (next_none F.hm F.f131 F.f68 (h.new B0) (by simp [hpn]; exact hp) hl) ?_
  rintro v h2 ⟨rfl, hh⟩
  subst h2
  simp
  refine codeW_rs ?_
  simp
  refine callThen_R (F.to0 _ (by simp; omega)) ?_
  simp [← hB, cmd0]
  refine codeW_ret ?_
  simp
  refine ⟨by simp; omega, fun j hj _ => ?_⟩
  have h1 : j ≠ h.next := by omega
  have h2 : j ≠ h.next + 1 := by omega
  simp [h1, h2]

/-- A connection's block. -/
def conB (room : Int) (p : Nat) (out : AV) (cl : Bool) : AB := .cells true false 93 [.int .i64 room, .ptr p 0, out, .str [], .str [], .nils, .str [], .int .u32 0, .int .i64 0, .int .u64 0, .int .u64 0, .bool false, .bool false, .bool false, .bool false, .int .i64 0, .bool false, .bool cl]
def did0 : AV := .agg [.bool false, .str [], .str [], .nils, .str [], .int .u32 0, .int .i64 0, .int .u64 0, .int .u64 0, .bool false, .bool false, .bool false, .bool false, .str [], .nils, .bool false]

theorem Waiting_ok (h : AH) {c p i o n cap : Nat} {x cl : Bool} {room : Int} (hc : h.get c = some (conB room p (.sl i o n cap x 1) cl)) :
    CallW P 15 [.ptr c 0] h fun v h' => v = .int .i64 n ∧ h' = h := by
  refine callW_fun F.hm F.f15 (by simp [a15]) ?_
  have hc1 := hc
  unfold conB at hc1
  unfold a15
  refine codeW_rs ?_
  simp
  refine codeW_rs ?_
  simp [hc1]
  refine codeW_ret ?_
  simp
theorem Waiting_nil (h : AH) {c p : Nat} {cl : Bool} {room : Int} (hc : h.get c = some (conB room p .nils cl)) :
    CallW P 15 [.ptr c 0] h fun v h' => v = .int .i64 0 ∧ h' = h := by
  refine callW_fun F.hm F.f15 (by simp [a15]) ?_
  have hc1 := hc
  unfold conB at hc1
  unfold a15
  refine codeW_rs ?_
  simp
  refine codeW_rs ?_
  simp [hc1]
  refine codeW_ret ?_
  simp
theorem Closed_ok (h : AH) {c p : Nat} {out : AV} {cl : Bool} {room : Int} (hc : h.get c = some (conB room p out cl)) :
    CallW P 17 [.ptr c 0] h fun v h' => v = .bool cl ∧ h' = h := by
  refine callW_fun F.hm F.f17 (by simp [a17]) ?_
  have hc1 := hc
  unfold conB at hc1
  unfold a17
  refine codeW_rs ?_
  simp
  refine codeW_rs ?_
  simp [hc1]
  refine codeW_ret ?_
  simp

/-- Bytes that come to a parser that has none. -/
theorem Feed_nil (h : AH) {p i o n cap : Nat} {x : Bool} {k : Int} {s : List UInt8} (hp : h.get p = some (parB .nils false .nili k)) (hb : Bytes h i o n s) (hn : 0 < n) (hn2 : n < 2^30) (hpn : p ≠ h.next) :
    CallW P 35 [.ptr p 0, .sl i o n cap x 1] h fun v h' => v = .tup [] ∧ h' = (h.new (.cells false false 5 (cellsOfBytes s))).set p (parB (.sl h.next 0 n n false 1) false .nili k) := by
  refine callW_fun F.hm F.f35 (by simp [a35]) ?_
  have hp1 : h.get p = some (.cells true false 155 [.nils, .bool false, .nili, .int .i64 k]) := hp
  unfold a35
  refine codeW_reg ?_
  have e0 : ¬ n = 0 := by omega
  have e1 : n * 2 ≤ 1099511627776 := by omega
  simp [hp1, hb.elems, appendA, e0, e1, hpn, parB]
theorem Feed_more (h : AH) {p i o n cap b m : Nat} {x : Bool} {k : Int} {s t : List UInt8} {z : Bool} (hp : h.get p = some (parB (.sl b m t.length t.length false 1) false .nili k)) (hbl : ∃ y, h.get b = some (.cells y false 5 (cellsOfBytes t))) (hm : m = 0) (hb : Bytes h i o n s) (hn : 0 < n) (hn2 : n < 2^30) (ht : t.length < 2^30) (hpn : p ≠ h.next) (hbp : b ≠ p) :
    CallW P 35 [.ptr p 0, .sl i o n cap x 1] h fun v h' => v = .tup [] ∧ h' = ((h.del b).new (.cells false false 5 (cellsOfBytes (t ++ s)))).set p (parB (.sl h.next 0 (t.length + n) (t.length + n) false 1) false .nili k) := by
  refine callW_fun F.hm F.f35 (by simp [a35]) ?_
  have hp1 : h.get p = some (.cells true false 155 [(.sl b m t.length t.length false 1), .bool false, .nili, .int .i64 k]) := hp
  obtain ⟨y, hbl⟩ := hbl
  subst hm
  unfold a35
  refine codeW_reg ?_
  have e0 : ¬ n = 0 := by omega
  have e1 : (t.length + n) * 2 ≤ 1099511627776 := by omega
  have hbp' : p ≠ b := fun e => hbp e.symm
  have e2 : ¬ t.length + n ≤ t.length := by omega
  have h1 := cells_one' s
  simp [hp1, hb.elems, appendA, e0, e1, e2, hbl, cells_length, List.take_of_length_le, hpn, hbp', parB, cells_append]
  simp only [if_pos h1]
  simp [hpn, hbp', hp1]
end
end Go.AM
set_option linter.unusedSimpArgs false
set_option linter.unusedVariables false
namespace Go.AM
section
variable {P : Program} (F : Fs P)
include F
theorem In_open (h : AH) {c p : Nat} {out b : AV} {room : Int} {Q : AV → AH → Prop} (hc : h.get c = some (conB room p out false)) (hf : CallW P 35 [.ptr p 0, b] h Q) (hq : ∀ v h', Q v h' → Q (.tup []) h') :
    CallW P 13 [.ptr c 0, b] h Q := by
  refine callW_fun F.hm F.f13 (by simp [a13]) ?_
  have hc1 := hc
  unfold conB at hc1
  unfold a13
  refine codeW_rs ?_
  simp [hc1]
  refine codeW_cond_true (by simp) ?_
  refine codeW_reg ?_
  simp [hc1]
  refine callThen_intro hf ?_
  intro v h' hh
  simp
  exact hq v h' hh
theorem In_closed (h : AH) {c p : Nat} {out b : AV} {room : Int} (hc : h.get c = some (conB room p out true)) :
    CallW P 13 [.ptr c 0, b] h fun v h' => v = .tup [] ∧ h' = h := by
  refine callW_fun F.hm F.f13 (by simp [a13]) ?_
  have hc1 := hc
  unfold conB at hc1
  unfold a13
  refine codeW_rs ?_
  simp [hc1]
  refine codeW_cond_false (by simp) ?_
  refine codeW_skip ?_
  simp

/-- A slice (or none) of n bytes. -/
def SlN (out : AV) (n : Nat) : Prop := (out = .nils ∧ n = 0) ∨ ∃ i o cap x, out = .sl i o n cap x 1

theorem Step_closed (h : AH) {c p : Nat} {out s : AV} {room : Int} (hc : h.get c = some (conB room p out true)) (hcn : c < h.next) :
    CallW P 14 [.ptr c 0, s, .int .i64 0] h fun v h' => v = .tup [did0, .int .i64 0] ∧ Chg [] h h' := by
  refine callW_fun F.hm F.f14 (by simp [a14]) ?_
  have hc1 := hc
  unfold conB at hc1
  have hne : c ≠ h.next := by omega
  unfold a14
  refine codeW_rs ?_
  simp
  refine codeW_seq ?_
  refine codeW_seq ?_
  refine codeW_draw0 ?_
  simp [hc1, hne]
  refine codeW_cond_true (by simp) ?_
  refine codeW_rs ?_
  simp
  refine codeW_ret ?_
  simp [did0]
  refine ⟨by simp; omega, fun j hj _ => ?_⟩
  have h1 : j ≠ h.next := by omega
  simp [h1]

theorem Step_full (h : AH) {c p n : Nat} {out s : AV} {room : Int} (ho : SlN out n) (hc : h.get c = some (conB room p out false)) (hr : room < n) (hcn : c < h.next) :
    CallW P 14 [.ptr c 0, s, .int .i64 0] h fun v h' => v = .tup [did0, .int .i64 0] ∧ Chg [] h h' := by
  refine callW_fun F.hm F.f14 (by simp [a14]) ?_
  have hc1 := hc
  unfold conB at hc1
  have hne : c ≠ h.next := by omega
  unfold a14
  refine codeW_rs ?_
  simp
  refine codeW_seq ?_
  refine codeW_seq ?_
  refine codeW_draw0 ?_
  rcases ho with ⟨rfl, rfl⟩ | ⟨i, o, cap, x, rfl⟩
  · have hr' : room < 0 := by simpa using hr
    simp [hc1, hne, hr']
    refine codeW_cond_true (by simp) ?_
    refine codeW_rs ?_
    simp
    refine codeW_ret ?_
    simp [did0]
    refine ⟨by simp; omega, fun j hj _ => ?_⟩
    have h1 : j ≠ h.next := by omega
    simp [h1]
  · simp [hc1, hne, hr]
    refine codeW_cond_true (by simp) ?_
    refine codeW_rs ?_
    simp
    refine codeW_ret ?_
    simp [did0]
    refine ⟨by simp; omega, fun j hj _ => ?_⟩
    have h1 : j ≠ h.next := by omega
    simp [h1]

theorem Step_none (h : AH) {c p n i o cap : Nat} {x : Bool} {k : Int} {out s : AV} {room : Int} (ho : SlN out n) (hc : h.get c = some (conB room p out false)) (hr : (n : Int) ≤ room) (hcn : c < h.next)
    (hp : h.get p = some (parB (.sl i o 0 cap x 1) false .nili k)) (hb : Bytes h i o 0 []) (hi : i < h.next) (hpi : p < h.next) (hng : NG ≤ h.next) :
    CallW P 14 [.ptr c 0, s, .int .i64 0] h fun v h' => v = .tup [did0, .int .i64 0] ∧ Chg [] h h' := by
  refine callW_fun F.hm F.f14 (by simp [a14]) ?_
  have hc1 := hc
  unfold conB at hc1
  have hne : c ≠ h.next := by omega
  have hr' : ¬ room < n := by omega
  have hpn : p ≠ h.next := by omega
  have hin : i ≠ h.next := by omega
  unfold a14
  refine codeW_rs ?_
  simp
  refine codeW_seq ?_
  refine codeW_seq ?_
  refine codeW_draw0 ?_
  have hN := Next_none F ((h.new (.cells true false 40 [.bool false, .str [], .str [], .nils, .str [], .int .u32 0, .int .i64 0, .int .u64 0, .int .u64 0, .bool false, .bool false, .bool false, .bool false, .str [], .nils, .bool false])).skip 16) (p := p) (i := i) (o := o) (c := cap) (x := x) (k := k)
    (by simp [hpn]; exact hp) (hb.congr (by simp [hin])) (by simp; omega) (by simp; omega) (by simp; omega)
  have fin : ∀ (h' : AH), Chg [] ((h.new (.cells true false 40 [.bool false, .str [], .str [], .nils, .str [], .int .u32 0, .int .i64 0, .int .u64 0, .int .u64 0, .bool false, .bool false, .bool false, .bool false, .str [], .nils, .bool false])).skip 16) h' →
      h'.get h.next = some (.cells true false 40 [.bool false, .str [], .str [], .nils, .str [], .int .u32 0, .int .i64 0, .int .u64 0, .int .u64 0, .bool false, .bool false, .bool false, .bool false, .str [], .nils, .bool false]) ∧ h.next + 17 ≤ h'.next ∧ ∀ j, j < h.next → h'.get j = h.get j := by
    intro h' ⟨g1, g2⟩
    simp only [AH.next_skip, AH.next_new] at g1 g2
    refine ⟨?_, by omega, fun j hj => ?_⟩
    · rw [g2 h.next (by omega) (by simp)]; simp
    · have : j ≠ h.next := by omega
      rw [g2 j (by omega) (by simp)]; simp [this]
  have hr0 : n = 0 → ¬ room < 0 := by omega
  rcases ho with ⟨rfl, rfl⟩ | ⟨i', o', cap', x', rfl⟩ <;> simp [hc1, hne, hr', hr0]
  all_goals
    refine codeW_cond_false (by simp) ?_
    refine codeW_skip ?_
    refine codeW_seq ?_
    refine codeW_rs ?_
    simp [hc1, hne]
    refine codeW_cond_false (by simp) ?_
    refine codeW_skip ?_
    refine codeW_rs ?_
    simp [hc1, hne]
    refine callThen_intro hN ?_
    rintro v h' ⟨rfl, hh⟩
    obtain ⟨f1, f2, f3⟩ := fin h' hh
    have hx : h.next ≠ h'.next := by omega
    simp [cmd0]
    refine codeW_seq ?_
    refine codeW_rs ?_
    simp
    refine codeW_cond_true (by simp) ?_
    refine codeW_rs ?_
    simp [f1, hx]
    refine codeW_ret ?_
    simp [did0]
    refine ⟨by simp; omega, fun j hj _ => ?_⟩
    have h1 : j ≠ h.next := by omega
    have h2 : j ≠ h'.next := by omega
    simp [h1, h2, f3 j hj]
end
end Go.AM
set_option linter.unusedSimpArgs false
set_option linter.unusedVariables false
namespace Go.AM
mutual
theorem AV.beq_self : ∀ a : AV, AV.beq a a = true
  | .bool _ => by simp [AV.beq]
  | .int .. => by simp [AV.beq]
  | .str _ => by simp [AV.beq]
  | .ptr .. => by simp [AV.beq]
  | .nilp => rfl
  | .sl .. => by simp [AV.beq]
  | .nils => rfl
  | .map _ => by simp [AV.beq]
  | .nilm => rfl
  | .fn f a b => by simp [AV.beq, AV.beqs_self a, AV.beqs_self b]
  | .nilf => rfl
  | .ifc t v => by simp [AV.beq, AV.beq_self v]
  | .nili => rfl
  | .agg a => by simp [AV.beq, AV.beqs_self a]
  | .tup a => by simp [AV.beq, AV.beqs_self a]
theorem AV.beqs_self : ∀ a : List AV, AV.beqs a a = true
  | [] => rfl
  | a :: as => by simp [AV.beqs, AV.beq_self a, AV.beqs_self as]
end

/-- What a step tells of a version. -/
def didV (l : Nat) : List AV := [.bool true, .str [119,111,114,100], .str ver, .nils, .str [], .int .u32 0, .int .i64 0, .int .u64 0, .int .u64 0, .bool false, .bool false, .bool false, .bool false, .str [], .sl l 0 1 1 true 7, .bool true]

/-- The bytes that wait. -/
def OutIs (h : AH) (out : AV) (s : List UInt8) : Prop := (out = .nils ∧ s = []) ∨ ∃ i o n y cs, out = .sl i o n n false 1 ∧ i < h.next ∧ h.get i = some (.cells y false 5 cs) ∧ Bytes h i o n s
theorem OutIs.congr {h k : AH} {out : AV} {s : List UInt8} (o : OutIs h out s) (hn : h.next ≤ k.next) (e : ∀ i, i < h.next → (∃ o n, out = .sl i o n n false 1) → k.get i = h.get i) : OutIs k out s := by
  rcases o with ⟨rfl, rfl⟩ | ⟨i, o, n, y, cs, rfl, hi, hg, hb⟩
  · exact .inl ⟨rfl, rfl⟩
  · have := e i hi ⟨o, n, rfl⟩
    exact .inr ⟨i, o, n, y, cs, rfl, by omega, by rw [this]; exact hg, hb.congr this⟩
theorem OutIs.sln {h : AH} {out : AV} {s : List UInt8} (o : OutIs h out s) : SlN out s.length := by
  rcases o with ⟨rfl, rfl⟩ | ⟨i, o, n, y, cs, rfl, hi, hg, hb⟩
  · exact .inl ⟨rfl, rfl⟩
  · exact .inr ⟨i, o, n, false, by rw [hb.1]⟩

section
variable {P : Program} (F : Fs P)
include F
theorem whole_ver (h : AH) {c p sp : Nat} {out : AV} {room : Int} {t : List UInt8} (hc : h.get c = some (conB room p out false)) (ho : OutIs h out t) (hoc : ∀ o n, out ≠ .sl c o n n false 1) (hop : ∀ o n, out ≠ .sl p o n n false 1) (ht : t.length < 2^30) (hcn : c < h.next) (hpn : p < h.next) (hs : sp < h.next) (hng : NG ≤ h.next) :
    CallW P 39 [.ptr c 0, .ptr sp 0, cmd ver, .int .i64 0] h fun v h' => (∃ l, v = .tup [.agg (didV l), .int .i64 0]) ∧ h.next ≤ h'.next ∧
      (∃ out', h'.get c = some (conB room p out' false) ∧ OutIs h' out' (t ++ verReply) ∧ (∀ j o n, out' = .sl j o n n false 1 → h.next ≤ j)) ∧
      ∀ j, j < h.next → j ≠ c → (∀ o n, out ≠ .sl j o n n false 1) → h'.get j = h.get j := by
  refine callW_fun F.hm F.f39 (by simp [a39]) ?_
  have hc1 := hc
  unfold conB at hc1
  unfold a39
  have hne : c ≠ h.next := by omega
  have hne1 : c ≠ h.next + 1 := by omega
  refine codeW_rs ?_
  simp [cmd]
  generalize hD : (AB.cells true false 40 [AV.bool false, AV.str [], AV.str [], AV.nils, AV.str [], AV.int IntKind.u32 0, AV.int IntKind.i64 0, AV.int IntKind.u64 0, AV.int IntKind.u64 0, AV.bool false, AV.bool false, AV.bool false, AV.bool false, AV.str [], AV.nils, AV.bool false]) = DB
  refine codeW_rs ?_
  simp
  refine callThen_R (F.dov _ sp (by simp; omega) (by simp; omega)) ?_
  simp
  refine codeW_seq ?_
  refine codeW_rs ?_
  simp
  refine codeW_cond_false (by simp) ?_
  refine codeW_skip ?_
  refine codeW_seq ?_
  refine codeW_rs ?_
  simp
  have h10 : ¬ h.next = h.next + 10 := by omega
  simp [h10]
  refine callThen_R (F.quiet ver (.inl rfl) _ (by simp; omega)) ?_
  simp
  refine codeW_cond_true (by simp) ?_
  have g0 : c ≠ h.next + 10 := by omega
  have g1 : h.next + 1 + 1 + 8 = h.next + 10 := by omega
  rw [g1]
  generalize hH : AH.skip _ 7 = H
  have n1 : H.next = h.next + 18 := by rw [← hH]; simp
  have n2 : H.get c = h.get c := by rw [← hH]; simp [hne, hne1, g0]
  have n3 : H.get h.next = some (AB.cells true false 37 [AV.str [119, 111, 114, 100], AV.str ver, AV.nils, AV.str [], AV.int IntKind.u32 0, AV.int IntKind.i64 0, AV.int IntKind.u64 0, AV.int IntKind.u64 0, AV.bool false, AV.bool false, AV.bool false, AV.bool false]) := by rw [← hH]; simp
  have n4 : H.get (h.next + 1) = some DB := by rw [← hH]; simp
  have n5 : H.get (h.next + 10) = some ansB := by rw [← hH]; simp
  have n6 : ∀ j, j < h.next → H.get j = h.get j := fun j hj => by
    have e1 : j ≠ h.next := by omega
    have e2 : j ≠ h.next + 1 := by omega
    have e3 : j ≠ h.next + 10 := by omega
    rw [← hH]; simp [e1, e2, e3]
  clear hH
  have hcH := n2.trans hc1
  have hall := F.allv (H.skip 11) (h.next + 10) (by simp; omega) (by simp; omega) (by simpa using n5)
  have hE : elemsA (((H.skip 11).skip 4).set (H.next + 11 + 3) (AB.cells false false 5 (cellsOfBytes verReply))) 1 (.sl (H.next + 11 + 3) 0 18 18 false 1) = some (18, cellsOfBytes verReply) := by
    refine Bytes.elems (s := verReply) ⟨rfl, ?_⟩ _ _
    simp [cells_length, verReply, cellsOfBytes]
  have hcn2 : c ≠ H.next + 14 := by omega
  have k1 : H.next + 11 + 3 = H.next + 14 := by omega
  have k2 : H.next + 11 + 4 = H.next + 15 := by omega
  have k3 : c ≠ H.next + 15 := by omega
  have k4 : c ≠ H.next + 11 + 4 := by omega
  have k5 : c ≠ H.next + 11 + 3 := by omega
  have cT : ∀ x, x ∈ cellsOfBytes verReply → AV.one x = true := cells_one' _
  refine CodeW.mono (Q := fun e tm H' => e = .normal ∧ tm.get 0 = some (.ptr c 0) ∧ tm.get 6 = some (.ptr h.next 0) ∧ tm.get 8 = some (.ptr (h.next + 1) 0) ∧ tm.get 10 = some (.sl (h.next + 10) 0 1 1 true 7) ∧ H.next ≤ H'.next ∧
      (∃ out', H'.get c = some (conB room p out' false) ∧ OutIs H' out' (t ++ verReply) ∧ (∀ j o n, out' = .sl j o n n false 1 → H.next ≤ j)) ∧
      ∀ j, j < H.next → j ≠ c → (∀ o n, out ≠ .sl j o n n false 1) → H'.get j = H.get j) ?_ ?_
  · refine codeW_drawS hall [4, 6] ?_
    rcases ho with ⟨rfl, rfl⟩ | ⟨i, o, n, y, cs, rfl, hi, hg, hb⟩
    · simp [oneCall_self, hcH, hE, appendA, k4, k5, sameV, AV.beq_self]
      refine ⟨by omega, ⟨_, rfl, .inr ⟨_, 0, 18, false, cellsOfBytes verReply, rfl, by simp, ?_, rfl, ?_⟩, ?_⟩, fun j hj hjc => ?_⟩
      · have : ¬ H.next + 11 + 4 = c := by omega
        simp [this]
      · have : ¬ H.next + 11 + 4 = c := by omega
        simp [this, cells_length, verReply, cellsOfBytes]
      · intro j o n e
        cases e
        omega
      · have e1 : j ≠ H.next + 11 + 4 := by omega
        have e2 : j ≠ H.next + 11 + 3 := by omega
        simp [hjc, e1, e2]
    · have hin : i ≠ H.next + 11 + 3 := by omega
      have hic : c ≠ i := fun e => hoc o n (by rw [e])
      have hgH : H.get i = some (.cells y false 5 cs) := (n6 i hi).trans hg
      have hbH := (hb.congr (n6 i hi))
      have e2 : ¬ n + 18 ≤ n := by omega
      have e3 : (n + 18) * 2 ≤ 1099511627776 := by have := hb.1; omega
      have hrd : readCells (((H.skip 11).skip 4).set (H.next + 11 + 3) (AB.cells false false 5 (cellsOfBytes verReply))) i o n = some (cellsOfBytes t) := by
        have := (hbH.congr (k := ((H.skip 11).skip 4).set (H.next + 11 + 3) (AB.cells false false 5 (cellsOfBytes verReply))) (by simp [hin])).2
        exact this
      have hap : appendA (((H.skip 11).skip 4).set (H.next + 11 + 3) (AB.cells false false 5 (cellsOfBytes verReply))) 5 1 1 (.sl i o n n false 1) 18 (cellsOfBytes verReply) =
          some (.sl (H.next + 15) 0 (n + 18) (n + 18) false 1, ((((H.skip 11).skip 4).set (H.next + 11 + 3) (AB.cells false false 5 (cellsOfBytes verReply))).del i).new (.cells false false 5 (cellsOfBytes (t ++ verReply)))) := by
        have hall2 : (cellsOfBytes verReply).all AV.one = true := cells_one _
        rw [appendA, if_neg (by decide)]
        simp only
        rw [if_pos ⟨by omega, trivial⟩, if_neg (by omega), Nat.mul_one, hrd]
        simp only [AH.get_set, hin, if_false, AH.get_skip, hgH, Bool.false_eq_true, hall2, and_self, if_true, cells_append]
        rfl
      have hl15 : H.next + 15 = H.next + 11 + 4 := rfl
      simp [oneCall_self, hcH, hE, hap, k4, k5, sameV, AV.beq_self, hin, hgH, hic]
      have tl := hb.1
      refine ⟨by omega, ⟨_, rfl, .inr ⟨_, 0, n + 18, false, cellsOfBytes (t ++ verReply), rfl, by simp, ?_, by simp [tl, verReply], ?_⟩, ?_⟩, fun j hj hjc hji => ?_⟩
      · have : ¬ H.next + 15 = c := by omega
        simp [this]
      · have : ¬ H.next + 15 = c := by omega
        have e4 : n + 18 = (cellsOfBytes (t ++ verReply)).length := by simp [cells_length, tl, verReply]
        simp [this, readCells, AB.cs, cut, ← e4]
        rw [List.take_of_length_le (by rw [← e4]; exact Nat.le_refl _)]
      · intro j o n e
        cases e
        omega
      · have e1 : j ≠ H.next + 11 + 4 := by omega
        have e2 : j ≠ H.next + 11 + 3 := by omega
        have e3 : j ≠ i := fun e => hji e.symm
        simp [hjc, e1, e2, e3]
  · rintro e tm H' ⟨rfl, t0, t6, t8, t10, hn', ⟨out', f1, f2, f3⟩, f4⟩
    have f1' := f1
    unfold conB at f1'
    have fcm : H'.get h.next = H.get h.next := f4 h.next (by omega) (by omega) (fun o n e => by
      rcases ho with ⟨rfl, _⟩ | ⟨i, o', n', y, cs, rfl, hi, _, _⟩
      · cases e
      · cases e; omega)
    have fdb : H'.get (h.next + 1) = H.get (h.next + 1) := f4 (h.next + 1) (by omega) (by omega) (fun o n e => by
      rcases ho with ⟨rfl, _⟩ | ⟨i, o', n', y, cs, rfl, hi, _, _⟩
      · cases e
      · cases e; omega)
    rw [n3] at fcm
    rw [n4, ← hD] at fdb
    simp
    refine codeW_seq ?_
    refine codeW_rs ?_
    simp [t6, fcm, ver]
    refine codeW_cond_false (by simp) ?_
    refine codeW_skip ?_
    refine codeW_rs ?_
    simp [t6, t8, t10, fcm, fdb]
    refine codeW_ret ?_
    simp [t8, didV]
    have q1 : c ≠ h.next + 1 := hne1
    refine ⟨by omega, ⟨out', by rw [if_neg q1]; exact f1, f2.congr (by simp) (fun i hi ⟨o, n, e⟩ => ?_), fun i o n e => ?_⟩, fun j hj hjc hji => ?_⟩
    · have := f3 i o n e
      have : i ≠ h.next + 1 := by omega
      simp [this]
    · have := f3 i o n e
      omega
    · have e1 : j ≠ h.next + 1 := by omega
      rw [if_neg e1, f4 j (by omega) hjc (fun o n e => hji o n e)]
      exact n6 j hj

/-- A quit's command, as a step tells it. -/
def didQ : List AV := [.bool true, .str [119,111,114,100], .str qui, .nils, .str [], .int .u32 0, .int .i64 0, .int .u64 0, .int .u64 0, .bool false, .bool false, .bool false, .bool false, .str [], .nils, .bool true]

theorem whole_qui (h : AH) {c p sp n : Nat} {out : AV} {room : Int} (hc : h.get c = some (conB room p out false)) (ho : SlN out n) (hcn : c < h.next) (hs : sp < h.next) (hng : NG ≤ h.next) :
    CallW P 39 [.ptr c 0, .ptr sp 0, cmd qui, .int .i64 0] h fun v h' => v = .tup [.agg didQ, .int .i64 0] ∧ h'.get c = some (conB room p out true) ∧ Chg [c] h h' := by
  refine callW_fun F.hm F.f39 (by simp [a39]) ?_
  have hc1 := hc
  unfold conB at hc1
  unfold a39
  have hne : c ≠ h.next := by omega
  have hne1 : c ≠ h.next + 1 := by omega
  refine codeW_rs ?_
  simp [cmd]
  generalize hD : (AB.cells true false 40 [AV.bool false, AV.str [], AV.str [], AV.nils, AV.str [], AV.int IntKind.u32 0, AV.int IntKind.i64 0, AV.int IntKind.u64 0, AV.int IntKind.u64 0, AV.bool false, AV.bool false, AV.bool false, AV.bool false, AV.str [], AV.nils, AV.bool false]) = DB
  refine codeW_rs ?_
  simp
  refine callThen_R (F.doq _ sp (by simp; omega) (by simp; omega)) ?_
  simp
  refine codeW_seq ?_
  refine codeW_rs ?_
  simp
  refine codeW_cond_false (by simp) ?_
  refine codeW_skip ?_
  refine codeW_seq ?_
  refine codeW_rs ?_
  simp
  refine callThen_R (F.quiet qui (.inr rfl) _ (by simp; omega)) ?_
  simp
  refine codeW_cond_true (by simp) ?_
  generalize hH : AH.skip _ 7 = H
  have n1 : H.next = h.next + 16 := by rw [← hH]; simp
  have n2 : H.get c = h.get c := by rw [← hH]; simp [hne, hne1]
  have n3 : H.get h.next = some (AB.cells true false 37 [AV.str [119, 111, 114, 100], AV.str qui, AV.nils, AV.str [], AV.int IntKind.u32 0, AV.int IntKind.i64 0, AV.int IntKind.u64 0, AV.int IntKind.u64 0, AV.bool false, AV.bool false, AV.bool false, AV.bool false]) := by rw [← hH]; simp
  have n4 : H.get (h.next + 1) = some DB := by rw [← hH]; simp
  have n6 : ∀ j, j < h.next → H.get j = h.get j := fun j hj => by
    have e1 : j ≠ h.next := by omega
    have e2 : j ≠ h.next + 1 := by omega
    rw [← hH]; simp [e1, e2]
  clear hH
  have hcH := n2.trans hc1
  have hall := F.allq (H.skip 11) (by simp; omega)
  have hel : ∀ K : AH, elemsA K 1 .nils = some (0, []) := fun _ => rfl
  have hap : ∀ (K : AH), appendA K 5 1 1 out 0 [] = some (out, K) := fun K => by
    rcases ho with ⟨rfl, _⟩ | ⟨i, o, cap, x, rfl⟩ <;> simp [appendA]
  have hone : AV.one out = true ∧ AV.cells out = [out] := by
    rcases ho with ⟨rfl, _⟩ | ⟨i, o, cap, x, rfl⟩ <;> simp
  refine CodeW.mono (Q := fun e tm H' => e = .normal ∧ tm.get 0 = some (.ptr c 0) ∧ tm.get 6 = some (.ptr h.next 0) ∧ tm.get 8 = some (.ptr (h.next + 1) 0) ∧ tm.get 10 = some .nils ∧ H.next ≤ H'.next ∧ H'.get c = some (conB room p out false) ∧
      ∀ j, j < H.next → j ≠ c → H'.get j = H.get j) ?_ ?_
  · refine codeW_drawS hall [4, 6] ?_
    simp [oneCall_self, hcH, hel, hap, hone, sameV, AV.beq_self]
    refine ⟨by simp [conB], fun j hj hjc => by simp [hjc]⟩
  · rintro e tm H' ⟨rfl, t0, t6, t8, t10, hn', f1, f4⟩
    have f1' := f1
    unfold conB at f1'
    have fcm : H'.get h.next = H.get h.next := f4 h.next (by omega) (by omega)
    have fdb : H'.get (h.next + 1) = H.get (h.next + 1) := f4 (h.next + 1) (by omega) (by omega)
    rw [n3] at fcm
    rw [n4, ← hD] at fdb
    have w1 : ¬ h.next = c := by omega
    have w2 : ¬ h.next + 1 = c := by omega
    simp
    refine codeW_seq ?_
    refine codeW_rs ?_
    simp [t6, fcm, qui]
    refine codeW_cond_true (by simp) ?_
    refine codeW_reg ?_
    simp [t0, f1']
    refine codeW_rs ?_
    simp [t6, t8, t10, fcm, fdb, w1, w2, qui]
    refine codeW_ret ?_
    simp [t8, didQ, qui, hne1, conB]
    refine ⟨by simp; omega, fun j hj hjc => ?_⟩
    simp only [List.mem_singleton] at hjc
    have e1 : j ≠ h.next + 1 := by omega
    simp [e1, hjc, f4 j (by omega) hjc, n6 j hj]
end
end Go.AM
