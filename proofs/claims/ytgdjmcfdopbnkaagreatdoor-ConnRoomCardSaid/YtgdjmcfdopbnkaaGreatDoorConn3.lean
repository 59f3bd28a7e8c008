/-
  One connection in letters, third part: a step by its line, answers are taken; the law ConnQuit on the abstract machine.
-/
import Derived.Test.YtgdjmcfdopbnkaaGreatDoorConn2
set_option linter.unusedSimpArgs false
set_option linter.unusedVariables false
set_option linter.unusedSimpArgs false
set_option linter.unusedVariables false
namespace Go.AM
def didB : AB := .cells true false 40 [.bool false, .str [], .str [], .nils, .str [], .int .u32 0, .int .i64 0, .int .u64 0, .int .u64 0, .bool false, .bool false, .bool false, .bool false, .str [], .nils, .bool false]
def cmdB (w : List UInt8) : AB := .cells true false 37 [.str [119,111,114,100], .str w, .nils, .str [], .int .u32 0, .int .i64 0, .int .u64 0, .int .u64 0, .bool false, .bool false, .bool false, .bool false]
def cmdZ : AB := .cells true false 37 [.str [], .str [], .nils, .str [], .int .u32 0, .int .i64 0, .int .u64 0, .int .u64 0, .bool false, .bool false, .bool false, .bool false]
section
variable {P : Program} (F : Fs P)
include F
theorem Step_go (h : AH) {c p sp n : Nat} {out : AV} {room : Int} {w : List UInt8} {R1 : AH → Prop} {R2 : List AV → AH → Prop} (ho : SlN out n) (hc : h.get c = some (conB room p out false)) (hr : (n : Int) ≤ room) (hcn : c < h.next)
    (hN : CallW P 37 [.ptr p 0] ((h.new didB).skip 16) fun v h' => v = .tup [cmd w, .bool true] ∧ R1 h')
    (hR : ∀ h1, R1 h1 → h1.get c = some (conB room p out false) ∧ h1.get h.next = some didB ∧ h.next < h1.next)
    (hW : ∀ h1, R1 h1 → CallW P 39 [.ptr c 0, .ptr sp 0, cmd w, .int .i64 0] ((h1.new cmdZ).set h1.next (cmdB w)) fun v h' => ∃ cs, v = .tup [.agg cs, .int .i64 0] ∧ cs.length = 16 ∧ (∀ x ∈ cs, AV.one x = true) ∧ h'.get h.next = some didB ∧ R2 cs h') :
    CallW P 14 [.ptr c 0, .ptr sp 0, .int .i64 0] h fun v h' => ∃ cs k, v = .tup [.agg cs, .int .i64 0] ∧ R2 cs k ∧ h' = k.set h.next (.cells true false 40 cs) := by
  refine callW_fun F.hm F.f14 (by simp [a14]) ?_
  have hc1 := hc
  unfold conB at hc1
  have hne : c ≠ h.next := by omega
  unfold a14
  refine codeW_rs ?_
  simp
  refine codeW_seq ?_
  refine codeW_seq ?_
  refine codeW_draw0 ?_
  have hr' : ¬ room < n := by omega
  have hr0 : n = 0 → ¬ room < 0 := by omega
  rcases ho with ⟨rfl, rfl⟩ | ⟨i', o', cap', x', rfl⟩ <;> simp [hc1, hne, hr', hr0]
  all_goals
    refine codeW_cond_false (by simp) ?_
    refine codeW_skip ?_
    refine codeW_seq ?_
    refine codeW_rs ?_
    simp [hc1, hne]
    refine codeW_cond_false (by simp) ?_
    refine codeW_skip ?_
    refine codeW_rs ?_
    simp [hc1, hne]
    refine callThen_intro hN ?_
    rintro v h1 ⟨rfl, hh⟩
    obtain ⟨r1, r2, r3⟩ := hR h1 hh
    have hw := hW h1 hh
    simp only [cmdZ, cmdB, cmd] at hw
    simp [cmd]
    refine codeW_seq ?_
    refine codeW_rs ?_
    simp
    refine codeW_cond_false (by simp) ?_
    refine codeW_skip ?_
    refine codeW_seq ?_
    refine codeW_rs ?_
    simp
    refine codeW_cond_false (by simp) ?_
    refine codeW_skip ?_
    refine codeW_rs ?_
    simp
    refine callThen_intro hw ?_
    rintro v h3 ⟨cs, rfl, hl, hone, hd, h2⟩
    unfold didB at hd
    have hone' : cs.all AV.one = true := List.all_eq_true.2 hone
    have htk : List.take 16 cs = cs := List.take_of_length_le (by omega)
    have hwr : writeCells h3 h.next 0 cs = some (h3.set h.next (.cells true false 40 cs)) := by
      have hp : ∀ z : List AV, z.length = 16 → paste z 0 cs = some cs := fun z hz => by
        simp [paste, hl, hz, List.drop_of_length_le]
      simp only [writeCells, hd]
      rw [hp _ rfl]
      simp only [hone', if_true]
    simp [-writeCells, hl, hwr]
    refine codeW_ret ?_
    simp [hl, htk]
    exact ⟨h3, h2, rfl⟩
end
end Go.AM
set_option linter.unusedSimpArgs false
set_option linter.unusedVariables false
namespace Go.AM
section
variable {P : Program} (F : Fs P)
include F
theorem Step_ver (h : AH) {c p sp i n cap : Nat} {y : Bool} {k : Int} {out : AV} {room : Int} {t rest : List UInt8} {oo : Nat} (ho : OutIs h out t) (hoc : ∀ o n, out ≠ .sl c o n n false 1) (hop : ∀ o n, out ≠ .sl p o n n false 1) (hoi : ∀ o n, out ≠ .sl i o n n false 1)
    (hc : h.get c = some (conB room p out false)) (hr : (t.length : Int) ≤ room) (ht : t.length < 2^30) (hcn : c < h.next) (hcp : c ≠ p) (hic : i ≠ c)
    (hp : h.get p = some (parB (.sl i oo n cap y 1) false .nili k)) (hb : Bytes h i oo n (ver ++ 13 :: 10 :: rest)) (hn : n < 2^40) (hcap : n ≤ cap) (hi : i < h.next) (hpn : p < h.next) (hip : i ≠ p) (hs : sp < h.next) (hng : NG ≤ h.next) :
    CallW P 14 [.ptr c 0, .ptr sp 0, .int .i64 0] h fun v h' => (∃ l, v = .tup [.agg (didV l), .int .i64 0]) ∧ h.next ≤ h'.next ∧
      (∃ out', h'.get c = some (conB room p out' false) ∧ OutIs h' out' (t ++ verReply) ∧ (∀ j o n, out' = .sl j o n n false 1 → h.next ≤ j)) ∧
      h'.get p = some (parB (.sl i (oo + 9) (n - 9) (cap - 9) y 1) false .nili k) ∧
      ∀ j, j < h.next → j ≠ c → j ≠ p → (∀ o n, out ≠ .sl j o n n false 1) → h'.get j = h.get j := by
  have hne : c ≠ h.next := by omega
  have hpn' : p ≠ h.next := by omega
  have hin : i ≠ h.next := by omega
  have hN := Next_line F ((h.new didB).skip 16) (p := p) (i := i) (o := oo) (n := n) (c := cap) (x := y) (k := k) (w := ver) (rest := rest)
    (by simp [hpn']; exact hp) (hb.congr (by simp [hin])) hn hcap (by simp; omega) (by simp; omega) hip (by simp; omega) (.inl rfl)
  have lv : ver.length = 7 := rfl
  rw [lv] at hN
  -- what the call of Next leaves
  have fr : ∀ (h1 : AH), Chg [p] ((h.new didB).skip 16) h1 → h.next + 17 ≤ h1.next ∧ h1.get h.next = some didB ∧ ∀ j, j < h.next → j ≠ p → h1.get j = h.get j := by
    intro h1 ⟨g1, g2⟩
    simp only [AH.next_skip, AH.next_new] at g1 g2
    refine ⟨by omega, ?_, fun j hj hjp => ?_⟩
    · rw [g2 h.next (by omega) (by simp only [List.mem_singleton]; omega)]; simp
    · have : j ≠ h.next := by omega
      rw [g2 j (by omega) (by simpa using hjp)]; simp [this]
  refine CallW.mono (Step_go F h (c := c) (p := p) (sp := sp) (n := t.length) (out := out) (room := room) (w := ver) (R1 := fun h' => h'.get p = some (parB (.sl i (oo + 9) (n - 9) (cap - 9) y 1) false .nili k) ∧ Chg [p] ((h.new didB).skip 16) h')
    (R2 := fun cs h' => (∃ l, cs = didV l) ∧ h.next + 17 ≤ h'.next ∧ (∃ out', h'.get c = some (conB room p out' false) ∧ OutIs h' out' (t ++ verReply) ∧ (∀ j o n, out' = .sl j o n n false 1 → h.next + 17 ≤ j)) ∧
      h'.get p = some (parB (.sl i (oo + 9) (n - 9) (cap - 9) y 1) false .nili k) ∧ ∀ j, j < h.next → j ≠ c → j ≠ p → (∀ o n, out ≠ .sl j o n n false 1) → h'.get j = h.get j)
    ho.sln hc hr hcn hN ?_ ?_) ?_
  · rintro h1 ⟨e1, e2⟩
    obtain ⟨a1, a2, a3⟩ := fr h1 e2
    exact ⟨by rw [a3 c hcn hcp]; exact hc, a2, by omega⟩
  · rintro h1 ⟨e1, e2⟩
    obtain ⟨a1, a2, a3⟩ := fr h1 e2
    have b0 : ∀ j, j < h1.next → ((h1.new cmdZ).set h1.next (cmdB ver)).get j = h1.get j := fun j hj => by
      have : j ≠ h1.next := by omega
      simp [this]
    have hob : ∀ j o n, out = .sl j o n n false 1 → j < h.next := fun j o n e => by
      rcases ho with ⟨rfl, _⟩ | ⟨i', o', n', y', cs', rfl, hi', _, _⟩
      · cases e
      · cases e; exact hi'
    have hoK : OutIs ((h1.new cmdZ).set h1.next (cmdB ver)) out t := ho.congr (by simp; omega) (fun j hj ⟨o, n, e⟩ => by
      rw [b0 j (by omega), a3 j hj (fun e2 => hop o n (by rw [e, e2]))])
    refine (whole_ver F ((h1.new cmdZ).set h1.next (cmdB ver)) (c := c) (p := p) (sp := sp) (out := out) (room := room) (t := t) (by rw [b0 c (by omega), a3 c hcn hcp]; exact hc) hoK hoc hop ht (by simp; omega) (by simp; omega) (by simp; omega) (by simp; omega)).mono ?_
    rintro v h3 ⟨⟨l, rfl⟩, d1, ⟨out', d2, d3, d4⟩, d5⟩
    have d5' : ∀ j, j < h1.next → j ≠ c → (∀ o n, out ≠ .sl j o n n false 1) → h3.get j = h1.get j := fun j hj hjc hjo => by
      rw [d5 j (by simp; omega) hjc hjo, b0 j hj]
    simp only [AH.next_set, AH.next_new] at d1 d4
    refine ⟨_, rfl, rfl, fun x hx => ?_, ?_, ⟨l, rfl⟩, by omega, ⟨out', d2, d3, fun j o n e => by have := d4 j o n e; omega⟩, ?_, fun j hj hjc hjp hjo => ?_⟩
    · simp only [didV, List.mem_cons, List.not_mem_nil, or_false] at hx
      rcases hx with rfl | rfl | rfl | rfl | rfl | rfl | rfl | rfl | rfl | rfl | rfl | rfl | rfl | rfl | rfl | rfl <;> rfl
    · rw [d5' h.next (by omega) (by omega) (fun o n e => by have := hob _ _ _ e; omega)]; exact a2
    · rw [d5' p (by omega) hcp.symm (fun o n e => hop o n e)]; exact e1
    · rw [d5' j (by omega) hjc hjo]; exact a3 j hj hjp
  · rintro v h' ⟨cs, k', rfl, ⟨⟨l, rfl⟩, c1, ⟨out', c2, c3, c4⟩, c5, c6⟩, rfl⟩
    refine ⟨⟨l, rfl⟩, by simp; omega, ⟨out', ?_, c3.congr (by simp) (fun j hj ⟨o, n, e⟩ => ?_), fun j o n e => by have := c4 j o n e; omega⟩, ?_, fun j hj hjc hjp hjo => ?_⟩
    · simp [hne]; exact c2
    · have := c4 j o n e
      have : j ≠ h.next := by omega
      simp [this]
    · simp [hpn']; exact c5
    · have : j ≠ h.next := by omega
      simp [this]; exact c6 j hj hjc hjp hjo

theorem Step_qui (h : AH) {c p sp i n m cap : Nat} {y : Bool} {k : Int} {out : AV} {room : Int} {rest : List UInt8} {oo : Nat} (ho : SlN out m)
    (hc : h.get c = some (conB room p out false)) (hr : (m : Int) ≤ room) (hcn : c < h.next) (hcp : c ≠ p) (hic : i ≠ c)
    (hp : h.get p = some (parB (.sl i oo n cap y 1) false .nili k)) (hb : Bytes h i oo n (qui ++ 13 :: 10 :: rest)) (hn : n < 2^40) (hcap : n ≤ cap) (hi : i < h.next) (hpn : p < h.next) (hip : i ≠ p) (hs : sp < h.next) (hng : NG ≤ h.next) :
    CallW P 14 [.ptr c 0, .ptr sp 0, .int .i64 0] h fun v h' => v = .tup [.agg didQ, .int .i64 0] ∧ h'.get c = some (conB room p out true) ∧ Chg [c, p] h h' := by
  have hne : c ≠ h.next := by omega
  have hpn' : p ≠ h.next := by omega
  have hin : i ≠ h.next := by omega
  have hN := Next_line F ((h.new didB).skip 16) (p := p) (i := i) (o := oo) (n := n) (c := cap) (x := y) (k := k) (w := qui) (rest := rest)
    (by simp [hpn']; exact hp) (hb.congr (by simp [hin])) hn hcap (by simp; omega) (by simp; omega) hip (by simp; omega) (.inr rfl)
  have fr : ∀ (h1 : AH), Chg [p] ((h.new didB).skip 16) h1 → h.next + 17 ≤ h1.next ∧ h1.get h.next = some didB ∧ ∀ j, j < h.next → j ≠ p → h1.get j = h.get j := by
    intro h1 ⟨g1, g2⟩
    simp only [AH.next_skip, AH.next_new] at g1 g2
    refine ⟨by omega, ?_, fun j hj hjp => ?_⟩
    · rw [g2 h.next (by omega) (by simp only [List.mem_singleton]; omega)]; simp
    · have : j ≠ h.next := by omega
      rw [g2 j (by omega) (by simpa using hjp)]; simp [this]
  refine CallW.mono (Step_go F h (c := c) (p := p) (sp := sp) (n := m) (out := out) (room := room) (w := qui) (R1 := fun h' => Chg [p] ((h.new didB).skip 16) h')
    (R2 := fun cs h' => cs = didQ ∧ h.next + 17 ≤ h'.next ∧ h'.get c = some (conB room p out true) ∧ ∀ j, j < h.next → j ≠ c → j ≠ p → h'.get j = h.get j)
    ho hc hr hcn (hN.mono fun v h' ⟨a, _, b⟩ => ⟨a, b⟩) ?_ ?_) ?_
  · rintro h1 e2
    obtain ⟨a1, a2, a3⟩ := fr h1 e2
    exact ⟨by rw [a3 c hcn hcp]; exact hc, a2, by omega⟩
  · rintro h1 e2
    obtain ⟨a1, a2, a3⟩ := fr h1 e2
    have b0 : ∀ j, j < h1.next → ((h1.new cmdZ).set h1.next (cmdB qui)).get j = h1.get j := fun j hj => by
      have : j ≠ h1.next := by omega
      simp [this]
    refine (whole_qui F ((h1.new cmdZ).set h1.next (cmdB qui)) (c := c) (p := p) (sp := sp) (n := m) (out := out) (room := room) (by rw [b0 c (by omega), a3 c hcn hcp]; exact hc) ho (by simp; omega) (by simp; omega) (by simp; omega)).mono ?_
    rintro v h3 ⟨rfl, d2, d1, d5⟩
    simp only [AH.next_set, AH.next_new] at d1
    have d5' : ∀ j, j < h1.next → j ≠ c → h3.get j = h1.get j := fun j hj hjc => by
      rw [d5 j (by simp; omega) (by simpa using hjc), b0 j hj]
    refine ⟨_, rfl, rfl, fun x hx => ?_, ?_, rfl, by omega, d2, fun j hj hjc hjp => ?_⟩
    · simp only [didQ, List.mem_cons, List.not_mem_nil, or_false] at hx
      rcases hx with rfl | rfl | rfl | rfl | rfl | rfl | rfl | rfl | rfl | rfl | rfl | rfl | rfl | rfl | rfl | rfl <;> rfl
    · rw [d5' h.next (by omega) (by omega)]; exact a2
    · rw [d5' j (by omega) hjc]; exact a3 j hj hjp
  · rintro v h' ⟨cs, k', rfl, ⟨rfl, c1, c2, c6⟩, rfl⟩
    refine ⟨rfl, ?_, by simp; omega, fun j hj hjs => ?_⟩
    · simp [hne]; exact c2
    · simp only [List.mem_cons, List.not_mem_nil, or_false, not_or] at hjs
      have : j ≠ h.next := by omega
      simp [this]; exact c6 j hj hjs.1 hjs.2
end
end Go.AM
set_option linter.unusedSimpArgs false
set_option linter.unusedVariables false
namespace Go.AM
/-- A slice, or none, that holds these bytes. -/
def OutV (h : AH) (v : AV) (s : List UInt8) : Prop := (v = .nils ∧ s = []) ∨ ∃ i o n cap x, v = .sl i o n cap x 1 ∧ Bytes h i o n s
section
variable {P : Program} (F : Fs P)
include F
theorem Clone_ok (h : AH) {i o n cap : Nat} {x : Bool} {s : List UInt8} (hb : Bytes h i o n s) (hi : i < h.next) (hn : n < 2^30) :
    CallW P 40 [.sl i o n cap x 1] h fun v h' => (∃ j cp y, v = .sl j 0 n cp y 1 ∧ h.next ≤ j ∧ Bytes h' j 0 n s) ∧ Chg [] h h' := by
  refine callW_fun F.hm F.f40 (by simp [a40]) ?_
  unfold a40
  refine codeW_rs ?_
  simp
  refine codeW_seq ?_
  refine codeW_rs ?_
  simp
  refine codeW_cond_false (by simp) ?_
  refine codeW_skip ?_
  have hin : i ≠ h.next := by omega
  have hE : elemsA (h.new (.cells true false 5 [])) 1 (.sl i o n cap x 1) = some (n, cellsOfBytes s) := (hb.congr (by simp [hin])).elems _ _
  by_cases h0 : n = 0
  · subst h0
    have : s = [] := List.length_eq_zero_iff.1 hb.1
    subst this
    refine codeW_rs ?_
    simp [repl, hE, appendA]
    refine codeW_ret ?_
    simp
    refine ⟨⟨rfl, by simp [cellsOfBytes]⟩, by simp, fun j hj _ => ?_⟩
    have : j ≠ h.next := by omega
    simp [this]
  · have e1 : n * 2 ≤ 1099511627776 := by omega
    refine codeW_rs ?_
    simp [repl, hE, appendA, h0, e1]
    refine codeW_ret ?_
    simp
    refine ⟨?_, by simp; omega, fun j hj _ => ?_⟩
    · have := Bytes.of_get (x := false) (fz := false) (e := 5) (h := (h.new (.cells true false 5 [])).new (.cells false false 5 (cellsOfBytes s))) (i := h.next + 1) (t := s) 0 (by simp) rfl (Nat.zero_le _)
      rw [hb.1] at this
      exact this
    · have h1 : j ≠ h.next := by omega
      have h2 : j ≠ h.next + 1 := by omega
      simp [h1, h2]

theorem Clone_nil (h : AH) : CallW P 40 [.nils] h fun v h' => v = .nils ∧ h' = h := by
  refine callW_fun F.hm F.f40 (by simp [a40]) ?_
  unfold a40
  refine codeW_rs ?_
  simp
  refine codeW_seq ?_
  refine codeW_rs ?_
  simp
  refine codeW_cond_true (by simp) ?_
  refine codeW_rs ?_
  simp
  refine codeW_ret ?_
  simp

theorem Out_ok (h : AH) {c p : Nat} {out : AV} {cl : Bool} {room a : Int} {t : List UInt8} (ho : OutIs h out t) (hc : h.get c = some (conB room p out cl)) (ha : 0 ≤ a) (hcn : c < h.next) (ht : t.length < 2^30) (hoc : ∀ o n, out ≠ .sl c o n n false 1) :
    CallW P 18 [.ptr c 0, .int .i64 a] h fun v h' => OutV h' v (t.take a.toNat) ∧ h.next ≤ h'.next ∧ (∃ out', h'.get c = some (conB room p out' cl) ∧ OutIs h' out' (t.drop a.toNat) ∧ (∀ j o n, out' = .sl j o n n false 1 → ∃ o n, out = .sl j o n n false 1)) ∧
      ∀ j, j < h.next → j ≠ c → h'.get j = h.get j := by
  refine callW_fun F.hm F.f18 (by simp [a18]) ?_
  have hc1 := hc
  unfold conB at hc1
  unfold a18
  refine codeW_rs ?_
  simp
  have e0 : ¬ 0 > a := by omega
  rcases ho with ⟨rfl, rfl⟩ | ⟨i, o, n, y, cs, rfl, hi, hg, hb⟩
  · have e1 : (if (0 : Int) < a then (0 : Int) else a) = 0 := by split <;> omega
    refine codeW_rs ?_
    simp [minmaxA, e0, hc1, e1]
    refine codeW_rs ?_
    simp [hc1]
    refine callThen_intro (Clone_nil F h) ?_
    rintro v h2 ⟨rfl, hh⟩
    subst h2
    simp
    refine codeW_rs ?_
    simp [hc1]
    refine codeW_rs ?_
    simp
    refine codeW_ret ?_
    simp
    refine ⟨.inl ⟨rfl, by simp⟩, ⟨.nils, by simp [conB], .inl ⟨rfl, by simp⟩, fun j o n e => by cases e⟩, fun j hj hjc => by simp [hjc]⟩
  · have hl := hb.1
    have e1 : (if (n : Int) < a then (n : Int) else a) = ((min a.toNat n : Nat) : Int) := by split <;> omega
    have hm : min a.toNat n ≤ n := Nat.min_le_right _ _
    generalize hmm : min a.toNat n = m at e1 hm
    refine codeW_rs ?_
    simp [minmaxA, e0, hc1, e1]
    have e2 : (m : Int) ≤ n := by omega
    refine codeW_rs ?_
    simp [hc1, hm]
    have hb1 : Bytes h i o m (t.take m) := by
      have := hb.sub (p := 0) (q := m) (Nat.zero_le _) hm
      simpa using this
    refine callThen_intro (Clone_ok F h hb1 hi (by omega)) ?_
    rintro v h2 ⟨⟨j, cp, z, rfl, hjn, hb2⟩, g1, g2⟩
    have hc2 : h2.get c = h.get c := g2 c hcn (by simp)
    have hi2 : h2.get i = h.get i := g2 i hi (by simp)
    rw [hc1] at hc2
    have hic : i ≠ c := fun e => hoc o n (by rw [e])
    simp
    refine codeW_rs ?_
    simp [hc2, hm]
    refine codeW_rs ?_
    simp
    refine codeW_ret ?_
    simp
    have tk : t.take a.toNat = t.take m := by
      rcases Nat.lt_or_ge a.toNat n with q | q
      · have : m = a.toNat := by omega
        rw [this]
      · have : m = n := by omega
        rw [this, List.take_of_length_le (by omega), List.take_of_length_le (by omega)]
    have td : t.drop a.toNat = t.drop m := by
      rcases Nat.lt_or_ge a.toNat n with q | q
      · have : m = a.toNat := by omega
        rw [this]
      · have : m = n := by omega
        rw [this, List.drop_of_length_le (by omega), List.drop_of_length_le (by omega)]
    have hb3 : Bytes h i (o + m) (n - m) (t.drop m) := by
      have := hb.sub (p := m) (q := n) hm (Nat.le_refl _)
      rwa [List.take_of_length_le (by simp; omega)] at this
    have hjc : j ≠ c := by omega
    refine ⟨.inr ⟨j, 0, m, cp, z, rfl, by rw [tk]; exact hb2.congr (by simp [hjc])⟩, g1, ⟨.sl i (o + m) (n - m) (n - m) false 1, by simp [conB], .inr ⟨i, o + m, n - m, y, cs, rfl, by simp; omega, by simp [hic, hi2, hg], by rw [td]; exact hb3.congr (by simp [hic, hi2])⟩, fun j o' n' e => by cases e; first | rfl | exact ⟨_, _, rfl⟩⟩, fun j hj hjc => ?_⟩
    simp [hjc]
    exact g2 j hj (by simp)
end
end Go.AM
set_option linter.unusedSimpArgs false
set_option linter.unusedVariables false
namespace Go.AM
def memL : List (Nat × AB) := [(17, .cells true false 219 [.ptr 13 0, .ptr 15 0, .ptr 27 0, .ptr 37 0, .ptr 47 0, .ptr 57 0, .ptr 67 0, .ptr 77 0, .map 16]),
 (27, .cells true false 321 [.nils, .nils, .nils, .map 25, .map 26]),
 (37, .cells true false 321 [.nils, .nils, .nils, .map 35, .map 36]),
 (47, .cells true false 321 [.nils, .nils, .nils, .map 45, .map 46]),
 (57, .cells true false 321 [.nils, .nils, .nils, .map 55, .map 56]),
 (67, .cells true false 321 [.nils, .nils, .nils, .map 65, .map 66]),
 (77, .cells true false 321 [.nils, .nils, .nils, .map 75, .map 76]),
 (84, .cells true false 143 [.ptr 10 0, .int .i64 0, .int .i64 4, .int .i64 4, .int .i64 2, .int .i64 8, .ptr 17 0, .ptr 103 0, .int .i64 0])]
/-- What the laws call besides. -/
structure Gs (P : Program) : Prop extends Fs P where
  awake : ∀ H : AH, CallR P 10 [] H (.bool true) H
  store : ∃ H1 : AH, H1.next = 1816 ∧ (∀ x ∈ memL, H1.get x.1 = some x.2) ∧ CallR P 12 [.int .i64 2] h0 (.tup [.ptr 84 0, .ptr 1815 0]) H1
  mem : ∀ H : AH, 1816 ≤ H.next → (∀ x ∈ memL, H.get x.1 = some x.2) → CallR P 31 [.ptr 84 0] H .nils (H.skip 132)
  isq : ∀ H : AH, NG ≤ H.next → ∃ d, CallR P 16 [cmd qui, .str [119,111,114,100], .str qui] H (.bool true) (H.skip d)
def memIds : List Nat := [17, 27, 37, 47, 57, 67, 77, 84]
section
variable {P : Program} (F : Gs P)
include F
theorem pnew_ok (h : AH) : CallW P 32 [] h fun v h' => v = .ptr h.next 0 ∧ h' = h.new (.cells true false 155 [.nils, .bool false, .nili, .int .i64 0]) := by
  refine callW_fun F.hm F.f32 (by simp [a32]) ?_
  unfold a32
  refine codeW_rs ?_
  simp
  refine codeW_rs ?_
  simp
  refine codeW_ret ?_
  simp
theorem cnew_ok (h : AH) (room : Int) (h1 : 64 ≤ room) (h2 : room ≤ 65536) : CallW P 11 [.int .i64 room] h fun v h' => v = .tup [.ptr (h.next + 1) 0, .int .i64 0] ∧
   h' = (h.new (.cells true false 155 [.nils, .bool false, .nili, .int .i64 0])).new (.cells true false 93 [.int .i64 room, .ptr h.next 0, .nils, .str [], .str [], .nils, .str [], .int .u32 0, .int .i64 0, .int .u64 0, .int .u64 0, .bool false, .bool false, .bool false, .bool false, .int .i64 0, .bool false, .bool false]) := by
  refine callW_fun F.hm F.f11 (by simp [a11]) ?_
  unfold a11
  have e1 : ¬ room < 64 := by omega
  have e2 : ¬ 65536 < room := by omega
  refine codeW_rs ?_
  simp
  refine codeW_seq ?_
  refine codeW_rs ?_
  simp [e1, e2]
  refine codeW_cond (b := false) (by simp) ?_
  refine codeW_skip ?_
  refine codeW_rs ?_
  simp
  refine callThen_intro (pnew_ok F h) ?_
  rintro v h' ⟨rfl, rfl⟩
  simp
  refine codeW_ret ?_
  simp
theorem quit_ok (hf : FunIs P 9 a9) (t more : List UInt8) : CallW P 9 [.str t, .str more] h0 fun v _ => v = .bool true := by
  refine callW_fun F.hm hf (by simp [a9]) ?_
  unfold a9
  refine codeW_rs ?_
  simp
  refine codeW_seq ?_
  refine codeW_rs ?_
  simp
  refine callThen_R (F.awake _) ?_
  simp
  refine codeW_cond_false (by simp) ?_
  refine codeW_skip ?_
  refine codeW_seq ?_
  have b1 : (500 : Int) < t.length ∨ ¬ (500 : Int) < t.length := by omega
  have b2 : (500 : Int) < more.length ∨ ¬ (500 : Int) < more.length := by omega
  rcases b1 with b1 | b1
  · refine codeW_rs ?_
    simp [b1]
    refine codeW_cond_true (by simp) ?_
    refine codeW_rs ?_
    simp
    refine codeW_ret ?_
    simp
  rcases b2 with b2 | b2
  · refine codeW_rs ?_
    simp [b1, b2]
    refine codeW_cond_true (by simp) ?_
    refine codeW_rs ?_
    simp
    refine codeW_ret ?_
    simp
  refine codeW_rs ?_
  simp [b1, b2]
  refine codeW_cond_false (by simp) ?_
  refine codeW_skip ?_
  obtain ⟨H1, n1, m1, st⟩ := F.store
  refine codeW_rs ?_
  simp
  refine callThen_R st ?_
  simp
  refine codeW_rs ?_
  simp
  refine callThen_intro (cnew_ok F H1 65536 (by decide) (by decide)) ?_
  rintro v h2 ⟨rfl, hh⟩
  rw [n1] at hh ⊢
  have c2 : h2.get 1817 = some (conB 65536 1816 .nils false) := by rw [hh]; simp [n1, conB]
  have p2 : h2.get 1816 = some (parB .nils false .nili 0) := by rw [hh]; simp [n1, parB]
  have n2 : h2.next = 1818 := by rw [hh]; simp [n1]
  have k2 : ∀ j, j < 1816 → h2.get j = H1.get j := fun j hj => by
    have e1 : j ≠ 1816 := by omega
    have e2 : j ≠ 1817 := by omega
    rw [hh]; simp [n1, e1, e2]
  clear hh
  simp
  refine codeW_seq ?_
  refine codeW_rs ?_
  simp
  refine codeW_cond_false (by simp) ?_
  refine codeW_skip ?_
  -- the bytes come
  have hs : [118, 101, 114, 115, 105, 111, 110, 13, 10, 113, 117, 105, 116, 13, 10] ++ t = ver ++ 13 :: 10 :: (qui ++ 13 :: 10 :: t) := by simp [ver, qui]
  have hlt : 15 + t.length < 4611686018427387904 := by omega
  refine codeW_rs ?_
  simp [hlt]
  rw [n2]
  generalize hS : (118 :: 101 :: 114 :: 115 :: 105 :: 111 :: 110 :: 13 :: 10 :: 113 :: 117 :: 105 :: 116 :: 13 :: 10 :: t) = S
  generalize hN : t.length + 1 + 1 + 1 + 1 + 1 + 1 + 1 + 1 + 1 + 1 + 1 + 1 + 1 + 1 + 1 = N
  have hSv : S = ver ++ 13 :: 10 :: (qui ++ 13 :: 10 :: t) := hS.symm
  have hSl : S.length = N := by rw [← hS]; simpa using hN
  have hNb : N ≤ 515 := by omega
  have hN0 : 15 ≤ N := by omega
  clear hS hN hs
  have b3 : Bytes (h2.new (.cells false false 5 (cellsOfBytes S))) 1818 0 N S := by
    have := Bytes.of_get (x := false) (fz := false) (e := 5) (h := h2.new (.cells false false 5 (cellsOfBytes S))) (i := 1818) (t := S) 0 (by simp [n2]) rfl (Nat.zero_le _)
    rwa [hSl] at this
  refine callThen_intro (In_open F.toFs _ (c := 1817) (p := 1816) (out := .nils) (room := 65536) (by simp [n2]; exact c2) (Feed_nil F.toFs _ (p := 1816) (i := 1818) (o := 0) (n := N) (cap := N) (x := false) (k := 0) (s := S) (by simp [n2]; exact p2) b3 (by omega) (by omega) (by simp [n2])) (fun v h' h => ⟨rfl, h.2⟩)) ?_
  rintro v h4 ⟨rfl, hh⟩
  simp only [AH.next_new, n2] at hh
  have c4 : h4.get 1817 = some (conB 65536 1816 .nils false) := by rw [hh]; simp [n2]; exact c2
  have p4 : h4.get 1816 = some (parB (.sl 1819 0 N N false 1) false .nili 0) := by rw [hh]; simp
  have n4 : h4.next = 1820 := by rw [hh]; simp [n2]
  have g4 : h4.get 1819 = some (.cells false false 5 (cellsOfBytes S)) := by rw [hh]; simp [n2]
  have k4 : ∀ j, j < 1816 → h4.get j = H1.get j := fun j hj => by
    have e1 : j ≠ 1816 := by omega
    have e2 : j ≠ 1818 := by omega
    have e3 : j ≠ 1819 := by omega
    rw [hh]; simp [n2, e1, e2, e3, k2 j hj]
  have b4 : Bytes h4 1819 0 N S := by
    have := Bytes.of_get (t := S) 0 g4 rfl (Nat.zero_le _)
    rwa [hSl] at this
  clear hh b3
  have hng : NG = 8 := rfl
  simp
  -- the version
  refine codeW_rs ?_
  simp
  refine callThen_intro (Step_ver F.toFs h4 (c := 1817) (p := 1816) (sp := 84) (i := 1819) (n := N) (cap := N) (y := false) (k := 0) (out := .nils) (room := 65536) (t := []) (rest := qui ++ 13 :: 10 :: t) (oo := 0)
    (.inl ⟨rfl, rfl⟩) (fun _ _ e => by cases e) (fun _ _ e => by cases e) (fun _ _ e => by cases e) c4 (by decide) (by decide) (by omega) (by decide) (by decide) p4 (hSv ▸ b4) (by omega) (Nat.le_refl _) (by omega) (by omega) (by decide) (by omega) (by omega)) ?_
  rintro v h5 ⟨⟨l5, rfl⟩, n5, ⟨out5, c5, o5, f5⟩, p5, k5⟩
  rw [n4] at n5 f5 k5
  have g5 : h5.get 1819 = h4.get 1819 := k5 1819 (by omega) (by decide) (by decide) (fun _ _ e => by cases e)
  have b5 : Bytes h5 1819 9 (N - 9) (qui ++ 13 :: 10 :: t) := by
    have := (b4.sub (p := 9) (q := N) (by omega) (Nat.le_refl _)).congr g5
    rw [List.take_of_length_le (by simp; omega), hSv] at this
    simpa [ver] using this
  simp
  -- the quit
  refine codeW_rs ?_
  simp
  refine callThen_intro (Step_qui F.toFs h5 (c := 1817) (p := 1816) (sp := 84) (i := 1819) (n := N - 9) (m := 18) (cap := N - 9) (y := false) (k := 0) (out := out5) (room := 65536) (rest := t) (oo := 9)
    (by have := o5.sln; simpa [verReply] using this) c5 (by decide) (by omega) (by decide) (by decide) (by simpa using p5) b5 (by omega) (Nat.le_refl _) (by omega) (by omega) (by decide) (by omega) (by omega)) ?_
  rintro v h6 ⟨rfl, c6, q6⟩
  have n6 : h5.next ≤ h6.next := q6.1
  have k6 := q6.2
  simp [didQ]
  -- more bytes
  have hv5 : ∀ j o n, out5 = .sl j o n n false 1 → 1820 ≤ j := f5
  have o6 : OutIs h6 out5 verReply := by
    have := o5.congr (k := h6) n6 (fun i hi ⟨o, n, e⟩ => k6 i hi (by
      have := hv5 _ _ _ e
      simp only [List.mem_cons, List.not_mem_nil, or_false]
      omega))
    simpa using this
  refine codeW_rs ?_
  simp
  generalize hH : AH.new _ _ = h7
  have n7 : h7.next = h6.next + 2 := by rw [← hH]; simp
  have k7 : ∀ j, j < h6.next → h7.get j = h6.get j := fun j hj => by
    have e1 : j ≠ h6.next := by omega
    have e2 : j ≠ h6.next + 1 := by omega
    rw [← hH]; simp [e1, e2]
  have x7 : h7.get h6.next = some (.cells true false 40 didQ) := by rw [← hH]; simp [didQ]
  clear hH
  have c7 : h7.get 1817 = some (conB 65536 1816 out5 true) := by rw [k7 1817 (by omega)]; exact c6
  refine callThen_intro (In_closed F.toFs h7 (c := 1817) (p := 1816) (out := out5) (room := 65536) c7) ?_
  rintro v h8 ⟨rfl, hh⟩
  subst h8
  simp
  -- the third step
  refine codeW_rs ?_
  simp
  refine callThen_intro (Step_closed F.toFs h7 (c := 1817) (p := 1816) (out := out5) (room := 65536) c7 (by omega)) ?_
  rintro v h8 ⟨rfl, q8⟩
  have n8 : h7.next ≤ h8.next := q8.1
  have k8 : ∀ j, j < h7.next → h8.get j = h7.get j := fun j hj => q8.2 j hj (by simp)
  simp [did0]
  generalize hH : AH.set _ _ _ = h9
  have n9 : h9.next = h8.next + 1 := by rw [← hH]; simp
  have k9 : ∀ j, j < h8.next → h9.get j = h8.get j := fun j hj => by
    have e1 : j ≠ h8.next := by omega
    rw [← hH]; simp [e1]
  have y9 : h9.get h8.next = some (.cells true false 40 [.bool false, .str [], .str [], .nils, .str [], .int .u32 0, .int .i64 0, .int .u64 0, .int .u64 0, .bool false, .bool false, .bool false, .bool false, .str [], .nils, .bool false]) := by rw [← hH]; simp
  clear hH
  have to9 : ∀ j, j < h6.next → h9.get j = h6.get j := fun j hj => by
    rw [k9 j (by omega), k8 j (by omega), k7 j hj]
  -- what waits is taken
  have c9 : h9.get 1817 = some (conB 65536 1816 out5 true) := by rw [to9 1817 (by omega)]; exact c6
  have o9 : OutIs h9 out5 verReply := o6.congr (by omega) (fun i hi _ => to9 i hi)
  refine codeW_rs ?_
  simp
  refine callThen_intro (Out_ok F.toFs h9 (c := 1817) (p := 1816) (out := out5) (cl := true) (room := 65536) (a := 100) (t := verReply) o9 c9 (by decide) (by omega) (by decide) (fun o n e => by have := hv5 _ _ _ e; omega)) ?_
  rintro v hA ⟨ov, nA, ⟨outA, cA, _, _⟩, kA⟩
  have ov' : OutV hA v verReply := by simpa [verReply] using ov
  obtain ⟨i, o, n, cap, x, rfl, bA⟩ : ∃ i o n cap x, v = .sl i o n cap x 1 ∧ Bytes hA i o n verReply := by
    rcases ov' with ⟨_, e⟩ | h
    · cases e
    · exact h
  have xA : hA.get h6.next = some (.cells true false 40 didQ) := by rw [kA _ (by omega) (by omega), k9 _ (by omega), k8 _ (by omega)]; exact x7
  have yA : hA.get h8.next = some (.cells true false 40 [.bool false, .str [], .str [], .nils, .str [], .int .u32 0, .int .i64 0, .int .u64 0, .int .u64 0, .bool false, .bool false, .bool false, .bool false, .str [], .nils, .bool false]) := by rw [kA _ (by omega) (by omega)]; exact y9
  have mA : ∀ y ∈ memL, hA.get y.1 = some y.2 := fun y hy => by
    have hlt : y.1 < 1816 := by
      have : (memL.all fun y => Nat.blt y.1 1816) = true := by decide
      simpa using List.all_eq_true.1 this y hy
    rw [kA _ (by omega) (by omega), to9 _ (by omega), k6 _ (by omega) (by simp only [List.mem_cons, List.not_mem_nil, or_false]; omega), k5 _ (by omega) (by omega) (by omega) (fun _ _ e => by cases e), k4 _ hlt]
    exact m1 y hy
  simp
  unfold didQ at xA
  obtain ⟨dq, hq⟩ := F.isq hA (by omega)
  have hM := F.mem (hA.skip dq) (by simp; omega) (fun y hy => by simpa using mA y hy)
  have hT : textA (hA.skip dq) (.sl i o n cap x 1) = some verReply := by rw [textA_skip]; exact bA.text _ _
  simp only [cmd, qui] at hq xA
  refine codeW_rs ?_
  simp [xA]
  refine callThen_R hq ?_
  simp
  refine callThen_intro (Closed_ok F.toFs (hA.skip dq) (c := 1817) (p := 1816) (out := outA) (cl := true) (room := 65536) (by simpa using cA)) ?_
  rintro v hB ⟨rfl, hh⟩
  subst hB
  have hv : (verReply == [86, 69, 82, 83, 73, 79, 78, 32, 99, 101, 108, 108, 97, 114, 101, 116, 13, 10]) = true := rfl
  simp [yA, hT, hv]
  refine callThen_R hM ?_
  simp
  refine codeW_ret ?_
  simp
end
end Go.AM
