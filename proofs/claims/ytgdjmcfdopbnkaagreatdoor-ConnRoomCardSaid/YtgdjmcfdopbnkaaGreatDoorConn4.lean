/-
  The law ConnRoom on the abstract machine, in letters.
-/
import Derived.Test.YtgdjmcfdopbnkaaGreatDoorConn3
set_option linter.unusedSimpArgs false
set_option linter.unusedVariables false
set_option linter.unusedSimpArgs false
set_option linter.unusedVariables false
namespace Go.AM
theorem drop_len (L m a d : Nat) (h : L + a = d) : L - m + (a + min m L) = d := by omega
def vline : List UInt8 := ver ++ [13, 10]
def reps : Nat → List UInt8
  | 0 => []
  | n + 1 => vline ++ reps n
theorem reps_len : ∀ n, (reps n).length = 9 * n
  | 0 => rfl
  | n + 1 => by simp [reps, reps_len n, vline, ver]; omega
theorem reps_succ : ∀ n, reps (n + 1) = reps n ++ vline
  | 0 => by simp [reps]
  | n + 1 => by
    have := reps_succ n
    show vline ++ reps (n + 1) = (vline ++ reps n) ++ vline
    rw [this, List.append_assoc]
theorem reps_front (n : Nat) : reps (n + 1) = ver ++ 13 :: 10 :: reps n := by simp [reps, vline]

/-- So many lines lie in the parser. -/
def BufIs (h : AH) (bv : AV) (s : List UInt8) : Prop := (bv = .nils ∧ s = []) ∨ ∃ b y, bv = .sl b 0 s.length s.length false 1 ∧ b < h.next ∧ b ≠ 1816 ∧ b ≠ 1817 ∧ h.get b = some (.cells y false 5 (cellsOfBytes s))
section
variable {P : Program} (F : Gs P)
include F
/-- One more line. -/
theorem In_line (h : AH) {room : Int} {bv : AV} {i j : Nat} (hi : i < 1000) (hn : 1818 ≤ h.next) (hc : h.get 1817 = some (conB room 1816 .nils false)) (hp : h.get 1816 = some (parB bv false .nili 0)) (hb : BufIs h bv (reps i)) {c : Nat} {x : Bool} (hl : Bytes h j 0 9 vline) :
    CallW P 13 [.ptr 1817 0, .sl j 0 9 c x 1] h fun v h' => v = .tup [] ∧ 1818 ≤ h'.next ∧ h'.get 1817 = some (conB room 1816 .nils false) ∧ ∃ bv', h'.get 1816 = some (parB bv' false .nili 0) ∧ BufIs h' bv' (reps (i + 1)) := by
  rcases hb with ⟨rfl, hs⟩ | ⟨b, y, rfl, b1, b2, b3, b4⟩
  · have hi0 : i = 0 := by
      have := reps_len i
      rw [hs] at this
      simp at this
      omega
    subst hi0
    refine CallW.mono (In_open F.toFs h (c := 1817) (p := 1816) (out := .nils) (room := room) hc (Feed_nil F.toFs h hp hl (by decide) (by decide) (by omega)) (fun v h' h => ⟨rfl, h.2⟩)) ?_
    rintro v h' ⟨rfl, hh⟩
    have e1 : ¬ (1817 : Nat) = h.next := by omega
    refine ⟨rfl, by rw [hh]; simp; omega, by rw [hh]; simp [e1]; exact hc, .sl h.next 0 9 9 false 1, by rw [hh]; simp, .inr ⟨h.next, false, by simp [reps_len], by rw [hh]; simp, by omega, by omega, ?_⟩⟩
    rw [hh]
    have e2 : ¬ h.next = 1816 := by omega
    simp [e2, reps]
  · have hl2 := reps_len i
    refine CallW.mono (In_open F.toFs h (c := 1817) (p := 1816) (out := .nils) (room := room) hc (Feed_more F.toFs h (b := b) (m := 0) (t := reps i) (z := false) hp ⟨y, b4⟩ rfl hl (by decide) (by decide) (by omega) (by omega) b2) (fun v h' h => ⟨rfl, h.2⟩)) ?_
    rintro v h' ⟨rfl, hh⟩
    have e1 : ¬ (1817 : Nat) = h.next := by omega
    have e3 : ¬ (1817 : Nat) = b := fun e => b3 e.symm
    refine ⟨rfl, by rw [hh]; simp; omega, by rw [hh]; simp [e1, e3]; exact hc, .sl h.next 0 ((reps i).length + 9) ((reps i).length + 9) false 1, by rw [hh]; simp, .inr ⟨h.next, false, by simp [reps_len]; omega, by rw [hh]; simp, by omega, by omega, ?_⟩⟩
    rw [hh]
    have e2 : ¬ h.next = 1816 := by omega
    simp [e2, reps_succ]

theorem Waiting_is (h : AH) {c p n : Nat} {out : AV} {cl : Bool} {room : Int} (ho : SlN out n) (hc : h.get c = some (conB room p out cl)) : CallW P 15 [.ptr c 0] h fun v h' => v = .int .i64 n ∧ h' = h := by
  rcases ho with ⟨rfl, rfl⟩ | ⟨i, o, cap, x, rfl⟩
  · exact Waiting_nil F.toFs h hc
  · exact Waiting_ok F.toFs h hc

/-- What holds ahead of each step. -/
def RI (n : Nat) (room : Int) (done out : Nat) (h : AH) : Prop := 1818 ≤ h.next ∧ done ≤ n ∧ ∃ outv t b, h.get 1817 = some (conB room 1816 outv false) ∧ OutIs h outv t ∧ t.length + out = 18 * done ∧ b < h.next ∧ b ≠ 1816 ∧ b ≠ 1817 ∧
  h.get 1816 = some (parB (.sl b (9 * done) (9 * (n - done)) (9 * (n - done)) false 1) false .nili 0) ∧ Bytes h b (9 * done) (9 * (n - done)) (reps (n - done)) ∧ (∀ j o m, outv = .sl j o m m false 1 → j ≠ 1816 ∧ j ≠ 1817 ∧ j ≠ b)

/-- What holds ahead of each round of the law's loop. -/
def RoomI (n : Nat) (room take : Int) (m : Nat) (t : Tm) (h : AH) : Prop := ∃ k done out : Nat, k + m ≤ 19 * n ∧ m = (n - done) + (18 * n - out) ∧ out ≤ 18 * n ∧ t.get 0 = some (.int .i64 n) ∧ t.get 1 = some (.int .i64 room) ∧ t.get 2 = some (.int .i64 take) ∧ t.get 7 = some (.ptr 84 0) ∧ t.get 9 = some (.ptr 1817 0) ∧ t.get 12 = some (.int .i64 done) ∧ t.get 13 = some (.int .i64 out) ∧ t.get 14 = some (.int .i64 k) ∧ RI n room done out h
omit F in
theorem RoomI.mk' {n : Nat} {room take : Int} {m : Nat} {t : Tm} {h : AH} (k done out : Nat) (h1 : k + m ≤ 19 * n) (h2 : m = (n - done) + (18 * n - out)) (h3 : out ≤ 18 * n) (h4 : t.get 0 = some (.int .i64 n)) (h5 : t.get 1 = some (.int .i64 room)) (h6 : t.get 2 = some (.int .i64 take)) (h7 : t.get 7 = some (.ptr 84 0)) (h8 : t.get 9 = some (.ptr 1817 0)) (h9 : t.get 12 = some (.int .i64 done)) (hA : t.get 13 = some (.int .i64 out)) (hB : t.get 14 = some (.int .i64 k)) (hC : RI n room done out h) : RoomI n room take m t h :=
  ⟨k, done, out, h1, h2, h3, h4, h5, h6, h7, h8, h9, hA, hB, hC⟩
set_option maxHeartbeats 4000000 in
theorem room_ok (hf : FunIs P 7 a7) (n room take : Int) : CallW P 7 [.int .i64 n, .int .i64 room, .int .i64 take] h0 fun v _ => v = .bool true := by
  refine callW_fun F.hm hf (by simp [a7]) ?_
  unfold a7
  refine codeW_rs ?_
  simp
  refine codeW_seq ?_
  refine codeW_rs ?_
  simp
  refine callThen_R (F.awake _) ?_
  simp
  refine codeW_cond_false (by simp) ?_
  refine codeW_skip ?_
  refine codeW_seq ?_
  by_cases hg : n < 1 ∨ 60 < n ∨ room < 64 ∨ 500 < room ∨ take < 1 ∨ 200 < take
  · have out : ∀ tm : Tm, CodeW P 130 (.seq (.region [⟨(some 6), .move (.const (.bool true)), none⟩]) .ret) tm h0 fun e t h => match e with
        | .normal => True
        | e => (∀ id, e ≠ .exit id) ∧ ∃ vs, resA t h [.tmp 6] = some vs ∧ packA vs = .bool true := fun tm => by
      refine codeW_rs ?_
      simp
      refine codeW_ret ?_
      simp
    by_cases g1 : n < 1
    · refine codeW_rs ?_
      simp [g1]
      refine codeW_cond_true (by simp) ?_
      refine codeW_rs ?_
      simp
      refine codeW_ret ?_
      simp
    by_cases g2 : 60 < n
    · refine codeW_rs ?_
      simp [g1, g2]
      refine codeW_cond_true (by simp) ?_
      refine codeW_rs ?_
      simp
      refine codeW_ret ?_
      simp
    by_cases g3 : room < 64
    · refine codeW_rs ?_
      simp [g1, g2, g3]
      refine codeW_cond_true (by simp) ?_
      refine codeW_rs ?_
      simp
      refine codeW_ret ?_
      simp
    by_cases g4 : 500 < room
    · refine codeW_rs ?_
      simp [g1, g2, g3, g4]
      refine codeW_cond_true (by simp) ?_
      refine codeW_rs ?_
      simp
      refine codeW_ret ?_
      simp
    by_cases g5 : take < 1
    · refine codeW_rs ?_
      simp [g1, g2, g3, g4, g5]
      refine codeW_cond_true (by simp) ?_
      refine codeW_rs ?_
      simp
      refine codeW_ret ?_
      simp
    by_cases g6 : 200 < take
    · refine codeW_rs ?_
      simp [g1, g2, g3, g4, g5, g6]
      refine codeW_cond_true (by simp) ?_
      refine codeW_rs ?_
      simp
      refine codeW_ret ?_
      simp
    exact absurd hg (by omega)
  have g1 : ¬ n < 1 := by omega
  have g2 : ¬ 60 < n := by omega
  have g3 : ¬ room < 64 := by omega
  have g4 : ¬ 500 < room := by omega
  have g5 : ¬ take < 1 := by omega
  have g6 : ¬ 200 < take := by omega
  refine codeW_rs ?_
  simp [g1, g2, g3, g4, g5, g6]
  refine codeW_cond_false (by simp) ?_
  refine codeW_skip ?_
  obtain ⟨H1, n1, m1, st⟩ := F.store
  refine codeW_rs ?_
  simp
  refine callThen_R st ?_
  simp
  refine codeW_rs ?_
  simp
  refine callThen_intro (cnew_ok F H1 room (by omega) (by omega)) ?_
  rintro v h2 ⟨rfl, hh⟩
  rw [n1] at hh ⊢
  have c2 : h2.get 1817 = some (conB room 1816 .nils false) := by rw [hh]; simp [n1, conB]
  have p2 : h2.get 1816 = some (parB .nils false .nili 0) := by rw [hh]; simp [n1, parB]
  have n2 : h2.next = 1818 := by rw [hh]; simp [n1]
  clear hh
  simp
  refine codeW_seq ?_
  refine codeW_rs ?_
  simp
  refine codeW_cond_false (by simp) ?_
  refine codeW_skip ?_
  refine codeW_seq ?_
  refine codeW_rs ?_
  simp
  -- the lines come
  obtain ⟨N, rfl⟩ : ∃ N : Nat, n = N := ⟨n.toNat, by omega⟩
  have hN : N ≤ 60 := by omega
  refine codeW_block ?_
  refine codeW_loop (I := fun m t h => ∃ i : Nat, i ≤ N ∧ m = N - i ∧ t.get 0 = some (.int .i64 N) ∧ t.get 1 = some (.int .i64 room) ∧ t.get 2 = some (.int .i64 take) ∧ t.get 7 = some (.ptr 84 0) ∧ t.get 9 = some (.ptr 1817 0) ∧ t.get 11 = some (.int .i64 i) ∧
    1818 ≤ h.next ∧ h.get 1817 = some (conB room 1816 .nils false) ∧ ∃ bv, h.get 1816 = some (parB bv false .nili 0) ∧ BufIs h bv (reps i)) (n := N) ?_ ⟨0, Nat.zero_le _, rfl, by simp, by simp, by simp, by simp, by simp, by simp, by omega, c2, .nils, p2, .inl ⟨rfl, rfl⟩⟩
  · rintro m t h ⟨i, hi, rfl, t0, t1, t2, t7, t9, t11, nn, cc, bv, pp, bb⟩
    refine codeW_seq ?_
    by_cases hlt : i < N
    · have hlt' : (i : Int) < N := by omega
      refine codeW_rs ?_
      simp [t0, t11, hlt']
      refine codeW_cond_true (by simp) ?_
      refine codeW_skip ?_
      simp
      refine codeW_seq ?_
      refine codeW_block ?_
      refine codeW_reg ?_
      simp [t9, repl]
      generalize hH : AH.set _ _ _ = h3
      have n3 : h3.next = h.next + 1 := by rw [← hH]; simp
      have k3 : ∀ j, j < h.next → h3.get j = h.get j := fun j hj => by
        have : j ≠ h.next := by omega
        rw [← hH]; simp [this]
      have x3 : h3.get h.next = some (.cells true false 5 (cellsOfBytes vline)) := by rw [← hH]; simp [vline, ver, cellsOfBytes]
      clear hH
      have bl : Bytes h3 h.next 0 9 vline := Bytes.of_get (t := vline) 0 x3 rfl (Nat.zero_le _)
      have bb3 : BufIs h3 bv (reps i) := by
        rcases bb with ⟨e1, e2⟩ | ⟨b, y, e1, e2, e3, e4, e5⟩
        · exact .inl ⟨e1, e2⟩
        · exact .inr ⟨b, y, e1, by omega, e3, e4, by rw [k3 b e2]; exact e5⟩
      refine callThen_intro (In_line F h3 (room := room) (bv := bv) (i := i) (j := h.next) (by omega) (by omega) (by rw [k3 1817 (by omega)]; exact cc) (by rw [k3 1816 (by omega)]; exact pp) bb3 (c := 9) (x := true) bl) ?_
      rintro v h4 ⟨rfl, nn4, cc4, bv4, pp4, bb4⟩
      have ew : IntKind.i64.wrap ((i : Int) + 1) = ((i + 1 : Nat) : Int) := by rw [wrap64 (by omega) (by omega)]; omega
      simp
      refine codeW_reg ?_
      simp [t11, ew]
      refine ⟨N - (i + 1), by omega, i + 1, by omega, rfl, by simp [t0], by simp [t1], by simp [t2], by simp [t7], by simp [t9], by simp, nn4, cc4, bv4, pp4, bb4⟩
    · have hlt' : ¬ (i : Int) < N := by omega
      refine codeW_rs ?_
      simp [t0, t11, hlt']
      refine codeW_cond_false (by simp) ?_
      refine codeW_exit ?_
      simp
      have hiN : i = N := by omega
      subst hiN
      -- all lines lie there
      obtain ⟨b, y, rfl, b1, b2, b3, b4⟩ : ∃ b y, bv = .sl b 0 (9 * i) (9 * i) false 1 ∧ b < h.next ∧ b ≠ 1816 ∧ b ≠ 1817 ∧ h.get b = some (.cells y false 5 (cellsOfBytes (reps i))) := by
        rcases bb with ⟨e1, e2⟩ | ⟨b, y, e1, e2, e3, e4, e5⟩
        · have := reps_len i
          rw [e2] at this
          simp at this
          omega
        · rw [reps_len] at e1
          exact ⟨b, y, e1, e2, e3, e4, e5⟩
      refine codeW_rs ?_
      simp
      refine codeW_rs ?_
      simp
      refine codeW_seq ?_
      refine codeW_rs ?_
      simp
      refine codeW_block ?_
      refine codeW_loop (I := RoomI i room take)
        (n := 19 * i) ?_ ⟨0, 0, 0, by omega, by omega, by omega, by simp [t0], by simp [t1], by simp [t2], by simp [t7], by simp [t9], by simp, by simp, by simp, nn, Nat.zero_le _, .nils, [], b, cc, .inl ⟨rfl, rfl⟩, rfl, b1, b2, b3, by simpa using pp, by
          have := Bytes.of_get (t := reps i) 0 b4 rfl (Nat.zero_le _)
          rw [reps_len] at this
          simpa using this, fun _ _ _ e => by cases e⟩
      rintro m t h ⟨k, done, out, hk, rfl, ho, t0, t1, t2, t7, t9, t12, t13, t14, nn, hd, outv, tx, b, cc, oo, hw, b1, b2, b3, pp, bb, hv⟩
      have e18 : IntKind.i64.wrap (18 * (i : Int)) = 18 * (i : Int) := wrap64 (by omega) (by omega)
      have ek : (k : Int) < 5000 := by omega
      refine codeW_seq ?_
      by_cases hlt : out < 18 * i
      · have hlt' : (out : Int) < 18 * i := by omega
        refine codeW_rs ?_
        simp [t14, t13, t0, ek, e18, hlt']
        refine codeW_cond_true (by simp) ?_
        refine codeW_skip ?_
        simp
        refine codeW_seq ?_
        refine codeW_block ?_
        refine codeW_rs ?_
        simp [t9]
        refine callThen_intro (Waiting_is F h oo.sln cc) ?_
        rintro v h2 ⟨rfl, hh⟩
        subst h2
        simp
        refine codeW_rs ?_
        simp [t9, t7]
        have hdn : done < i ∨ done = i := by omega
        have tl : tx.length ≤ 1080 := by omega
        have hng : NG = 8 := rfl
        have ek1 : IntKind.i64.wrap ((k : Int) + 1) = ((k + 1 : Nat) : Int) := by rw [wrap64 (by omega) (by omega)]; omega
        by_cases hstep : (tx.length : Int) ≤ room ∧ done < i
        · -- a step is done
          obtain ⟨hs1, hs2⟩ := hstep
          obtain ⟨d, hdd⟩ : ∃ d, i - done = d + 1 := ⟨i - done - 1, by omega⟩
          have ed1 : IntKind.i64.wrap ((done : Int) + 1) = ((done + 1 : Nat) : Int) := by rw [wrap64 (by omega) (by omega)]; omega
          rw [hdd] at pp bb
          have bb' : Bytes h b (9 * done) (9 * (d + 1)) (ver ++ 13 :: 10 :: reps d) := by rw [← reps_front]; exact bb
          refine callThen_intro (Step_ver F.toFs h (c := 1817) (p := 1816) (sp := 84) (i := b) (n := 9 * (d + 1)) (cap := 9 * (d + 1)) (y := false) (k := 0) (out := outv) (room := room) (t := tx) (rest := reps d) (oo := 9 * done)
            oo (fun o n e => (hv _ _ _ e).2.1 rfl) (fun o n e => (hv _ _ _ e).1 rfl) (fun o n e => (hv _ _ _ e).2.2 rfl) cc hs1 (by omega) (by omega) (by decide) (by omega) pp bb' (by omega) (Nat.le_refl _) b1 (by omega) b2 (by omega) (by omega)) ?_
          rintro v h3 ⟨⟨l, rfl⟩, n3, ⟨out3, c3, o3, f3⟩, p3, k3⟩
          simp [didV]
          generalize hH : AH.set _ _ _ = h4
          have n4 : h4.next = h3.next + 1 := by rw [← hH]; simp
          have k4 : ∀ j, j < h3.next → h4.get j = h3.get j := fun j hj => by
            have : j ≠ h3.next := by omega
            rw [← hH]; simp [this]
          have x4 : h4.get h3.next = some (.cells true false 40 (didV l)) := by rw [← hH]; simp [didV]
          clear hH
          unfold didV at x4
          have hnr : ¬ room < tx.length := by omega
          refine codeW_seq ?_
          refine codeW_rs ?_
          simp [x4, t1, hnr]
          refine codeW_cond_false (by simp) ?_
          refine codeW_skip ?_
          simp
          refine codeW_seq ?_
          refine codeW_rs ?_
          simp [x4]
          refine codeW_cond_true (by simp) ?_
          refine codeW_rs ?_
          simp [t12, ed1]
          refine codeW_exit ?_
          simp
          refine CodeW.mono (Q := fun e tm h' => e = .normal ∧ h' = h4 ∧ tm.get 0 = some (.int .i64 i) ∧ tm.get 1 = some (.int .i64 room) ∧ tm.get 2 = some (.int .i64 take) ∧ tm.get 7 = some (.ptr 84 0) ∧ tm.get 9 = some (.ptr 1817 0) ∧ tm.get 12 = some (.int .i64 (done + 1 : Nat)) ∧ tm.get 13 = some (.int .i64 out) ∧ tm.get 14 = some (.int .i64 (k + 1 : Nat))) ?_ ?_
          · refine codeW_reg ?_
            simp [t14, ek1, t0, t1, t2, t7, t9, t13]
          rintro e tm h' ⟨rfl, hh4, u0, u1, u2, u7, u9, u12, u13, u14⟩
          subst h'
          refine ⟨(i - (done + 1)) + (18 * i - out), by omega, .mk' (k + 1) (done + 1) out (by omega) rfl ho u0 u1 u2 u7 u9 u12 u13 u14 ?_⟩
          have e9 : 9 * (i - (done + 1)) = 9 * (d + 1) - 9 := by omega
          have e10 : 9 * (done + 1) = 9 * done + 9 := by omega
          have e11 : i - (done + 1) = d := by omega
          refine ⟨by omega, by omega, out3, tx ++ verReply, b, by rw [k4 1817 (by omega)]; exact c3, o3.congr (by omega) (fun j hj _ => k4 j hj), by simp [verReply]; omega, by omega, b2, b3, by rw [k4 1816 (by omega), e9, e10]; exact p3, ?_, fun j o m e => by have := f3 j o m e; omega⟩
          have hb3 : h4.get b = h.get b := by
            rw [k4 b (by omega), k3 b b1 b3 b2 (fun o n e => (hv _ _ _ e).2.2 rfl)]
          have := (bb'.sub (p := 9) (q := 9 * (d + 1)) (by omega) (Nat.le_refl _)).congr hb3
          rw [List.take_of_length_le (by have q := bb'.1; rw [List.length_drop, q]; exact Nat.le_refl _)] at this
          rw [e11, e10]
          have e12 : 9 * (d + 1) - 9 = 9 * d := by omega
          rw [e12] at this
          simpa [ver] using this
        · -- none is
          have hS : CallW P 14 [.ptr 1817 0, .ptr 84 0, .int .i64 0] h fun v h' => v = .tup [did0, .int .i64 0] ∧ Chg [] h h' := by
            by_cases hfull : room < tx.length
            · exact Step_full F.toFs h oo.sln cc hfull (by omega)
            · have hdi : done = i := by omega
              subst hdi
              have e0 : 9 * (done - done) = 0 := by omega
              have e1 : done - done = 0 := by omega
              rw [e0] at pp bb
              rw [e1] at bb
              exact Step_none F.toFs h oo.sln cc (by omega) (by omega) pp bb b1 (by omega) (by omega)
          refine callThen_intro hS ?_
          rintro v h3 ⟨rfl, n3, k3'⟩
          have k3 : ∀ j, j < h.next → h3.get j = h.get j := fun j hj => k3' j hj (by simp)
          simp [did0]
          generalize hH : AH.set _ _ _ = h4
          have n4 : h4.next = h3.next + 1 := by rw [← hH]; simp
          have k4 : ∀ j, j < h3.next → h4.get j = h3.get j := fun j hj => by
            have : j ≠ h3.next := by omega
            rw [← hH]; simp [this]
          have x4 : h4.get h3.next = some (.cells true false 40 [.bool false, .str [], .str [], .nils, .str [], .int .u32 0, .int .i64 0, .int .u64 0, .int .u64 0, .bool false, .bool false, .bool false, .bool false, .str [], .nils, .bool false]) := by rw [← hH]; simp
          clear hH
          have kk : ∀ j, j < h.next → h4.get j = h.get j := fun j hj => by rw [k4 j (by omega), k3 j hj]
          have hW0 : 0 < tx.length := by
            by_cases q : room < tx.length
            · omega
            · have : done = i := by omega
              omega
          have o4 : OutIs h4 outv tx := oo.congr (by omega) (fun j hj _ => kk j hj)
          have hO := Out_ok F.toFs h4 (c := 1817) (p := 1816) (out := outv) (cl := false) (room := room) (a := take) (t := tx) o4 (by rw [kk 1817 (by omega)]; exact cc) (by omega) (by omega) (by omega) (fun o n e => (hv _ _ _ e).2.1 rfl)
          have hlen : ∀ (hh : AH) (v : AV), OutV hh v (tx.take take.toNat) → SlN v (min take.toNat tx.length) := by
            rintro hh v (⟨rfl, e⟩ | ⟨i, o, n, cp, x, rfl, hb⟩)
            · have := congrArg List.length e
              simp only [List.length_take, List.length_nil] at this
              exact .inl ⟨rfl, this⟩
            · have := hb.1
              simp only [List.length_take] at this
              exact .inr ⟨i, o, cp, x, by rw [this]⟩
          refine codeW_seq ?_
          by_cases hfull : room < tx.length
          · have hfn : ¬ (tx.length : Int) ≤ room := by omega
            refine codeW_rs ?_
            simp [x4, t1, t12, t0, hfull, hfn]
            refine codeW_cond_false (by simp) ?_
            refine codeW_skip ?_
            simp
            refine codeW_seq ?_
            refine codeW_rs ?_
            simp [x4]
            refine codeW_cond_false (by simp) ?_
            refine codeW_skip ?_
            simp
            refine codeW_reg ?_
            simp [t9, t2, t13]
            refine callThen_intro hO ?_
            rintro v h5 ⟨ov, n5, ⟨out5, c5, o5, f5⟩, k5⟩
            have hmin : out + min take.toNat tx.length ≤ 18 * i := by omega
            have ew : IntKind.i64.wrap ((out : Int) + ((min take.toNat tx.length : Nat) : Int)) = ((out + min take.toNat tx.length : Nat) : Int) := by rw [wrap64 (by omega) (by omega)]; omega
            rcases hlen _ _ ov with ⟨rfl, e0⟩ | ⟨i', o', cp', x', rfl⟩
            · exact absurd e0 (by omega)
            · simp [ew]
              refine CodeW.mono (Q := fun e tm h' => e = .normal ∧ h' = h5 ∧ tm.get 0 = some (.int .i64 i) ∧ tm.get 1 = some (.int .i64 room) ∧ tm.get 2 = some (.int .i64 take) ∧ tm.get 7 = some (.ptr 84 0) ∧ tm.get 9 = some (.ptr 1817 0) ∧ tm.get 12 = some (.int .i64 done) ∧ tm.get 13 = some (.int .i64 (out + min take.toNat tx.length : Nat)) ∧ tm.get 14 = some (.int .i64 (k + 1 : Nat))) ?_ ?_
              · refine codeW_reg ?_
                simp [t14, ek1, t0, t1, t2, t7, t9, t12]
              rintro e tm h' ⟨rfl, hh5, u0, u1, u2, u7, u9, u12, u13, u14⟩
              subst hh5
              refine ⟨(i - done) + (18 * i - (out + min take.toNat tx.length)), by omega, .mk' (k + 1) done (out + min take.toNat tx.length) (by omega) rfl hmin u0 u1 u2 u7 u9 u12 u13 u14 ?_⟩
              have to5 : ∀ j, j < h.next → j ≠ 1817 → h'.get j = h.get j := fun j hj hjc => by rw [k5 j (by omega) hjc, kk j hj]
              refine ⟨by omega, hd, out5, tx.drop take.toNat, b, c5, o5, by rw [List.length_drop]; exact drop_len _ _ _ _ hw, by omega, b2, b3, by rw [to5 1816 (by omega) (by decide)]; exact pp, bb.congr (to5 b b1 b3), fun j o m e => ?_⟩
              obtain ⟨o', m', e'⟩ := f5 j o m e
              exact hv j o' m' e'
          · have hdi : ¬ (done : Int) < i := by omega
            have hfn : (tx.length : Int) ≤ room := by omega
            refine codeW_rs ?_
            simp [x4, t1, t12, t0, hfull, hfn, hdi]
            refine codeW_cond_false (by simp) ?_
            refine codeW_skip ?_
            simp
            refine codeW_seq ?_
            refine codeW_rs ?_
            simp [x4]
            refine codeW_cond_false (by simp) ?_
            refine codeW_skip ?_
            simp
            refine codeW_reg ?_
            simp [t9, t2, t13]
            refine callThen_intro hO ?_
            rintro v h5 ⟨ov, n5, ⟨out5, c5, o5, f5⟩, k5⟩
            have hmin : out + min take.toNat tx.length ≤ 18 * i := by omega
            have ew : IntKind.i64.wrap ((out : Int) + ((min take.toNat tx.length : Nat) : Int)) = ((out + min take.toNat tx.length : Nat) : Int) := by rw [wrap64 (by omega) (by omega)]; omega
            rcases hlen _ _ ov with ⟨rfl, e0⟩ | ⟨i', o', cp', x', rfl⟩
            · exact absurd e0 (by omega)
            · simp [ew]
              refine CodeW.mono (Q := fun e tm h' => e = .normal ∧ h' = h5 ∧ tm.get 0 = some (.int .i64 i) ∧ tm.get 1 = some (.int .i64 room) ∧ tm.get 2 = some (.int .i64 take) ∧ tm.get 7 = some (.ptr 84 0) ∧ tm.get 9 = some (.ptr 1817 0) ∧ tm.get 12 = some (.int .i64 done) ∧ tm.get 13 = some (.int .i64 (out + min take.toNat tx.length : Nat)) ∧ tm.get 14 = some (.int .i64 (k + 1 : Nat))) ?_ ?_
              · refine codeW_reg ?_
                simp [t14, ek1, t0, t1, t2, t7, t9, t12]
              rintro e tm h' ⟨rfl, hh5, u0, u1, u2, u7, u9, u12, u13, u14⟩
              subst hh5
              refine ⟨(i - done) + (18 * i - (out + min take.toNat tx.length)), by omega, .mk' (k + 1) done (out + min take.toNat tx.length) (by omega) rfl hmin u0 u1 u2 u7 u9 u12 u13 u14 ?_⟩
              have to5 : ∀ j, j < h.next → j ≠ 1817 → h'.get j = h.get j := fun j hj hjc => by rw [k5 j (by omega) hjc, kk j hj]
              refine ⟨by omega, hd, out5, tx.drop take.toNat, b, c5, o5, by rw [List.length_drop]; exact drop_len _ _ _ _ hw, by omega, b2, b3, by rw [to5 1816 (by omega) (by decide)]; exact pp, bb.congr (to5 b b1 b3), fun j o m e => ?_⟩
              obtain ⟨o', m', e'⟩ := f5 j o m e
              exact hv j o' m' e'
      · have hlt' : ¬ (out : Int) < 18 * i := by omega
        refine codeW_rs ?_
        simp [t14, t13, t0, ek, e18, hlt']
        refine codeW_cond_false (by simp) ?_
        refine codeW_exit ?_
        simp
        have q1 : out = 18 * i := by omega
        have q2 : done = i := by omega
        have q3 : tx.length = 0 := by omega
        subst q1 q2
        refine codeW_rs ?_
        simp [t12, t13, t0, t9, e18]
        have hW := Waiting_is F h oo.sln cc
        rw [q3] at hW
        refine callThen_intro hW ?_
        rintro v h2 ⟨rfl, hh⟩
        simp
        refine codeW_ret ?_
        simp
end
end Go.AM
