/-
  AmCrc: a part of the abstract machine that stands for runs of the program in the model: no statement of the seat is in it.
-/
import Derived.Test.YtadcebncbpopdaaGreatDoorAmCode
set_option linter.unusedSimpArgs false
noncomputable section
namespace Go.AM
/-! ## The two checks' loops -/

def poly : Nat := 2197175160
/-- One bit. -/
def crcBit (x : Nat) : Nat := match Nat.land x 1 with
  | 0 => Nat.shiftRight x 1
  | _ => Nat.xor (Nat.shiftRight x 1) poly
def crcBits : Nat → Nat → Nat
  | 0, x => x
  | n + 1, x => crcBits n (crcBit x)

theorem wrap_nat (n : Nat) (h : n < 2 ^ 32) : IntKind.u32.wrap (n : Int) = (n : Int) := by
  have : IntKind.u32.wrap (n : Int) = (n : Int) % (2 ^ 32 : Int) := by
    simp [IntKind.wrap, IntKind.bits, IntKind.signed]
  rw [this]; omega
theorem bv_nat (n : Nat) (h : n < 2 ^ 32) : (BitVec.ofInt 32 (n : Int)).toNat = n := by
  rw [BitVec.toNat_ofInt]; omega

theorem and1 (x : Nat) (h : x < 2 ^ 32) : bitsA .and (.int .u32 x) (.int .u32 1) = some (.int .u32 ((Nat.land x 1 : Nat) : Int)) := by
  have e : (BitVec.ofInt 32 (x : Int) &&& BitVec.ofInt 32 (1 : Int)).toNat = Nat.land x 1 := by
    rw [BitVec.toNat_and, bv_nat x h]; rfl
  have h2 : Nat.land x 1 < 2 ^ 32 := Nat.lt_of_le_of_lt (Nat.and_le_left) h
  simp only [bitsA, if_true]
  change some (AV.int .u32 (IntKind.u32.wrap (((BitVec.ofInt 32 (x : Int) &&& BitVec.ofInt 32 (1 : Int)).toNat : Nat) : Int))) = _
  rw [e, wrap_nat _ h2]
theorem xorp (x y : Nat) (h : x < 2 ^ 32) (hy : y < 2 ^ 32) : bitsA .xor (.int .u32 x) (.int .u32 y) = some (.int .u32 ((Nat.xor x y : Nat) : Int)) := by
  have e : (BitVec.ofInt 32 (x : Int) ^^^ BitVec.ofInt 32 (y : Int)).toNat = Nat.xor x y := by
    rw [BitVec.toNat_xor, bv_nat x h, bv_nat y hy]; rfl
  have h2 : Nat.xor x y < 2 ^ 32 := Nat.xor_lt_two_pow h hy
  simp only [bitsA, if_true]
  change some (AV.int .u32 (IntKind.u32.wrap (((BitVec.ofInt 32 (x : Int) ^^^ BitVec.ofInt 32 (y : Int)).toNat : Nat) : Int))) = _
  rw [e, wrap_nat _ h2]
theorem shr1 (x : Nat) (h : x < 2 ^ 32) : shiftA .shr (.int .u32 x) (.int .u64 1) = some (.int .u32 ((Nat.shiftRight x 1 : Nat) : Int)) := by
  have e : ((x : Int)).fdiv (2 ^ min (1 : Int).toNat 32) = ((Nat.shiftRight x 1 : Nat) : Int) := by
    have h1 : Nat.shiftRight x 1 = x / 2 := Nat.shiftRight_succ x 0
    rw [h1]
    have : min (1 : Int).toNat 32 = 1 := by decide
    rw [this, Int.fdiv_eq_ediv_of_nonneg _ (by decide)]
    omega
  have h2 : Nat.shiftRight x 1 < 2 ^ 32 := by
    have h1 : Nat.shiftRight x 1 = x / 2 := Nat.shiftRight_succ x 0
    omega
  simp only [shiftA, IntKind.bits, e, wrap_nat _ h2]
  simp

def bit458 : ACode :=
  (.seq (.region [⟨(some 22), .bin (.cmp .lss) (.tmp 21) (.const (.int .i64 8)), none⟩])
 (.seq (.cond (.tmp 22) .skip (.exit 2))
 (.seq (.block 3 (.seq (.region [⟨(some 23), .move (.tmp 5), none⟩, ⟨(some 24), .bin (.bits .and) (.tmp 23) (.const (.int .u32 1)), none⟩, ⟨(some 8), .move (.tmp 24), none⟩])
 (.seq (.region [⟨(some 25), .move (.tmp 5), none⟩, ⟨(some 26), .bin (.shift .shr) (.tmp 25) (.const (.int .u64 1)), none⟩, ⟨(some 5), .move (.tmp 26), none⟩])
 (.seq (.region [⟨(some 27), .move (.tmp 8), none⟩, ⟨(some 28), .bin (.cmp .eql) (.tmp 27) (.const (.int .u32 1)), none⟩])
 (.cond (.tmp 28) (.region [⟨(some 29), .move (.tmp 5), none⟩, ⟨(some 30), .bin (.bits .xor) (.tmp 29) (.const (.int .u32 2197175160)), none⟩, ⟨(some 5), .move (.tmp 30), none⟩]) .skip)))))
 (.region [⟨(some 31), .bin (.arith .add) (.tmp 21) (.const (.int .i64 1)), none⟩, ⟨(some 21), .move (.tmp 31), none⟩]))))

/-- The run ends, and so. -/
def Ran (r : Option (Ex × Tm × AH)) (Q : Ex → Tm → AH → Prop) : Prop := match r with
  | some (e, t, h) => Q e t h
  | none => False

section
variable {F : Nat} {c : CallH} {nt : Nat} {t : Tm} {h : AH} {Q : Ex → Tm → AH → Prop}
theorem ran_seq {x y : ACode} (hx : Ran (evCode F c nt x t h) fun e t h => match e with | .normal => Ran (evCode F c nt y t h) Q | e => Q e t h) : Ran (evCode F c nt (.seq x y) t h) Q := by
  simp only [evCode, evCodeB]
  simp only [evCode] at hx
  cases e : (evCodeB F nt x).f c t h with
  | none => rw [e] at hx; exact hx
  | some r =>
    obtain ⟨ex, t', h'⟩ := r
    rw [e] at hx
    cases ex <;> exact hx
theorem ran_block {id : Nat} {x : ACode} (hx : Ran (evCode F c nt x t h) fun e t h => match e with | .exit j => Q (if j = id then .normal else .exit j) t h | e => Q e t h) : Ran (evCode F c nt (.block id x) t h) Q := by
  simp only [evCode, evCodeB]
  simp only [evCode] at hx
  cases e : (evCodeB F nt x).f c t h with
  | none => rw [e] at hx; exact hx
  | some r =>
    obtain ⟨ex, t', h'⟩ := r
    rw [e] at hx
    cases ex with
    | normal => exact hx
    | ret => exact hx
    | exit j =>
      by_cases hj : j = id
      · simpa [Ran, hj] using hx
      · simpa [Ran, hj] using hx
theorem ran_loop {x : ACode} (hx : Ran (loopN (evCode F c nt x) F t h) Q) : Ran (evCode F c nt (.loop x) t h) Q := hx
theorem ran_cond_true {o : Operand} {x y : ACode} (ho : opnd t o = some (.bool true)) (hx : Ran (evCode F c nt x t h) Q) : Ran (evCode F c nt (.cond o x y) t h) Q := by
  simp only [evCode, evCodeB, ho]; exact hx
theorem ran_cond_false {o : Operand} {x y : ACode} (ho : opnd t o = some (.bool false)) (hx : Ran (evCode F c nt y t h) Q) : Ran (evCode F c nt (.cond o x y) t h) Q := by
  simp only [evCode, evCodeB, ho]; exact hx
theorem ran_skip (hx : Q .normal t h) : Ran (evCode F c nt .skip t h) Q := hx
theorem ran_exit {id : Nat} (hx : Q (.exit id) t h) : Ran (evCode F c nt (.exit id) t h) Q := hx
theorem ran_ret (hx : Q .ret t h) : Ran (evCode F c nt .ret t h) Q := hx
/-- A region: its operations, then what holds. -/
theorem ran_region {l : List AOper} (hx : match evOps c nt l t h with | some (t, h) => Q .normal t h | none => False) : Ran (evCode F c nt (.region l) t h) Q := by
  simp only [evCode, evCodeB]
  cases e : evOps c nt l t h with
  | none => rw [e] at hx; exact hx.elim
  | some r => rw [e] at hx; exact hx
end

theorem bit_step {F : Nat} {c : CallH} {tm : Tm} {h : AH} {x i : Nat} (hx : x < 2 ^ 32) (hi : i < 8) (h5 : tm.get 5 = some (.int .u32 x)) (h21 : tm.get 21 = some (.int .i64 i)) :
    Ran (evCode F c 35 bit458 tm h) fun e tm' h' => e = .normal ∧ h' = h ∧ tm'.get 5 = some (.int .u32 (crcBit x)) ∧ tm'.get 21 = some (.int .i64 ((i + 1 : Nat) : Int)) ∧
      ∀ k, k = 11 ∨ k = 12 ∨ k = 13 → tm'.get k = tm.get k := by
  have hlt : decide ((i : Int) < 8) = true := by simp; omega
  have hadd : IntKind.i64.wrap ((i : Int) + 1) = ((i + 1 : Nat) : Int) := by
    have : i = 0 ∨ i = 1 ∨ i = 2 ∨ i = 3 ∨ i = 4 ∨ i = 5 ∨ i = 6 ∨ i = 7 := by omega
    rcases this with rfl | rfl | rfl | rfl | rfl | rfl | rfl | rfl <;> decide
  have ha := and1 x hx
  have hs := shr1 x hx
  have h2 : Nat.shiftRight x 1 < 2 ^ 32 := by
    have h1 : Nat.shiftRight x 1 = x / 2 := Nat.shiftRight_succ x 0
    omega
  have hp := xorp (Nat.shiftRight x 1) 2197175160 h2 (by decide)
  have hl : Nat.land x 1 = x % 2 := Nat.and_one_is_mod x
  have hb : crcBit x = if x % 2 = 0 then Nat.shiftRight x 1 else Nat.xor (Nat.shiftRight x 1) poly := by
    unfold crcBit
    rw [hl]
    rcases Nat.mod_two_eq_zero_or_one x with e | e <;> rw [e] <;> rfl
  rw [hl] at ha
  rw [hb]
  have hpc : ((2197175160 : Nat) : Int) = 2197175160 := rfl
  rw [hpc] at hp
  have hpo : Nat.xor (Nat.shiftRight x 1) poly = Nat.xor (Nat.shiftRight x 1) 2197175160 := rfl
  rw [hpo]
  generalize Nat.xor (Nat.shiftRight x 1) 2197175160 = z at hp ⊢
  generalize Nat.shiftRight x 1 = y at hs h2 hp ⊢
  clear hb hpo hl
  have h1 : ((1 : Nat) : Int) = 1 := rfl
  have h0 : ((0 : Nat) : Int) = 0 := rfl
  rcases Nat.mod_two_eq_zero_or_one x with e | e <;> rw [e] at ha ⊢
  · rw [h0] at ha
    simp [Ran, bit458, evCode, evCodeB, evOps, evOpsB, guardOk, evOp, kindOf, evPure, evPureB, opnd, avWhole, avOf, cx, setT, binA, h5, h21, cmpA, hlt, Tr.get_put, ha, hs, arithA, hadd, hi]
  · rw [h1] at ha
    simp [Ran, bit458, evCode, evCodeB, evOps, evOpsB, guardOk, evOp, kindOf, evPure, evPureB, opnd, avWhole, avOf, cx, setT, binA, h5, h21, cmpA, hlt, Tr.get_put, ha, hs, arithA, hadd, hi, hp]

theorem Ran.mono {r : Option (Ex × Tm × AH)} {Q Q' : Ex → Tm → AH → Prop} (h : Ran r Q) (k : ∀ e t h, Q e t h → Q' e t h) : Ran r Q' := by
  cases r with
  | none => exact h
  | some x => obtain ⟨e, t, h'⟩ := x; exact k _ _ _ h

theorem Ran.get {r : Option (Ex × Tm × AH)} {Q : Ex → Tm → AH → Prop} (h : Ran r Q) : ∃ e t h', r = some (e, t, h') ∧ Q e t h' := by
  cases r with
  | none => exact h.elim
  | some x => obtain ⟨e, t, h'⟩ := x; exact ⟨e, t, h', rfl, h⟩

theorem crcBit_lt {x : Nat} (h : x < 2 ^ 32) : crcBit x < 2 ^ 32 := by
  have h2 : Nat.shiftRight x 1 < 2 ^ 32 := by
    have h1 : Nat.shiftRight x 1 = x / 2 := Nat.shiftRight_succ x 0
    omega
  unfold crcBit
  split
  · exact h2
  · exact Nat.xor_lt_two_pow h2 (by decide)
theorem crcBits_lt : ∀ (n : Nat) {x : Nat}, x < 2 ^ 32 → crcBits n x < 2 ^ 32
  | 0, _, h => h
  | n + 1, _, h => crcBits_lt n (crcBit_lt h)

theorem bits_loop {F : Nat} {c : CallH} {h : AH} : ∀ (n m : Nat) (tm : Tm) (x : Nat), n ≤ 8 → n < m → x < 2 ^ 32 → tm.get 5 = some (.int .u32 x) → tm.get 21 = some (.int .i64 ((8 - n : Nat) : Int)) →
    Ran (loopN (evCode F c 35 bit458) m tm h) fun e tm' h' => e = .exit 2 ∧ h' = h ∧ tm'.get 5 = some (.int .u32 (crcBits n x)) ∧ ∀ k, k = 11 ∨ k = 12 ∨ k = 13 → tm'.get k = tm.get k
  | 0, m + 1, tm, x, _, _, hx, h5, h21 => by
    have h8 : ((8 - 0 : Nat) : Int) = 8 := rfl
    rw [h8] at h21
    simp [loopN, Ran, bit458, evCode, evCodeB, evOps, evOpsB, guardOk, evOp, kindOf, evPure, evPureB, opnd, avWhole, avOf, cx, setT, binA, h5, h21, cmpA, Tr.get_put, crcBits]
  | n + 1, m + 1, tm, x, hn, hm, hx, h5, h21 => by
    obtain ⟨e, t, h', hr, rfl, rfl, g5, g21, gk⟩ := (bit_step (F := F) (c := c) (h := h) (i := 8 - (n + 1)) hx (by omega) h5 h21).get
    simp only [loopN, hr]
    refine (bits_loop n m t (crcBit x) (by omega) (by omega) (crcBit_lt hx) g5 (by rw [g21]; congr 3; omega)).mono ?_
    rintro e t' h'' ⟨rfl, rfl, k5, kk⟩
    exact ⟨rfl, rfl, k5, fun k hk => (kk k hk).trans (gk k hk)⟩

def crcBytes : List Nat → Nat → Nat
  | [], x => x
  | v :: r, x => crcBytes r (crcBits 8 (Nat.xor x v))

def byte458 : ACode :=
  (.seq (.region [⟨(some 14), .bin (.cmp .lss) (.tmp 13) (.tmp 12), none⟩])
 (.seq (.cond (.tmp 14) .skip (.exit 0))
 (.seq (.block 1 (.seq (.region [⟨(some 15), .idxAddr 1 none (.tmp 11) (.tmp 13), none⟩, ⟨(some 16), .load 1 false (.tmp 15), none⟩, ⟨(some 7), .move (.tmp 16), none⟩])
 (.seq (.region [⟨(some 17), .move (.tmp 5), none⟩, ⟨(some 18), .move (.tmp 7), none⟩, ⟨(some 19), .conv (.int .u32) (.tmp 18), none⟩, ⟨(some 20), .bin (.bits .xor) (.tmp 17) (.tmp 19), none⟩, ⟨(some 5), .move (.tmp 20), none⟩])
 (.seq (.region [⟨(some 21), .move (.const (.int .i64 0)), none⟩])
 (.block 2 (.loop bit458))))))
 (.region [⟨(some 32), .bin (.arith .add) (.tmp 13) (.const (.int .i64 1)), none⟩, ⟨(some 13), .move (.tmp 32), none⟩]))))

theorem wrap_i64 (z : Int) (h0 : 0 ≤ z) (h : z < 2 ^ 62) : IntKind.i64.wrap z = z := by
  have : IntKind.i64.wrap z = if 9223372036854775808 ≤ z % 18446744073709551616 then z % 18446744073709551616 - 18446744073709551616 else z % 18446744073709551616 := by
    simp [IntKind.wrap, IntKind.bits, IntKind.signed]
  rw [this]
  split <;> omega

theorem byte_step {F : Nat} {c : CallH} {tm : Tm} {h : AH} {x i n v b o cap : Nat} {ex : Bool} (hF : 8 < F) (hx : x < 2 ^ 32) (hi : i < n) (hn : n < 2 ^ 40) (hv : v < 256)
    (h5 : tm.get 5 = some (.int .u32 x)) (h13 : tm.get 13 = some (.int .i64 i)) (h12 : tm.get 12 = some (.int .i64 n)) (h11 : tm.get 11 = some (.sl b o n cap ex 1)) (hc : readCells h b (o + i) 1 = some [.int .u8 v]) :
    Ran (evCode F c 35 byte458 tm h) fun e tm' h' => e = .normal ∧ h' = h ∧ tm'.get 5 = some (.int .u32 (crcBits 8 (Nat.xor x v))) ∧ tm'.get 13 = some (.int .i64 ((i + 1 : Nat) : Int)) ∧ tm'.get 12 = tm.get 12 ∧ tm'.get 11 = tm.get 11 := by
  have hlt : decide ((i : Int) < (n : Int)) = true := by simp; omega
  have hadd : IntKind.i64.wrap ((i : Int) + 1) = ((i + 1 : Nat) : Int) := by rw [wrap_i64 _ (by omega) (by omega)]; omega
  have hw := wrap_nat v (by omega)
  have hp := xorp x v hx (by omega)
  have hz : Nat.xor x v < 2 ^ 32 := Nat.xor_lt_two_pow hx (by omega)
  generalize Nat.xor x v = z at hp hz ⊢
  have hload : loadA h 1 false (.ptr b (o + i)) = some (.int .u8 v) := by simp [loadA, hc]
  have hbits := fun (t : Tm) h5 h21 => bits_loop (F := F) (c := c) (h := h) 8 F t z (by omega) hF hz h5 h21
  have hidx : (0 : Int) ≤ (i : Int) ∧ (i : Int) < (n : Int) ∧ 1 = 1 := by omega
  have htn : ((i : Int)).toNat = i := by omega
  unfold byte458
  refine ran_seq (ran_region ?_)
  simp [evOps, evOpsB, guardOk, evOp, kindOf, evPure, evPureB, opnd, avWhole, avOf, cx, setT, binA, h12, h13, cmpA, hi, Tr.get_put]
  refine ran_seq (ran_cond_true (by simp [opnd, Tr.get_put]) (ran_skip ?_))
  refine ran_seq (ran_block ?_)
  refine ran_seq (ran_region ?_)
  simp [evOps, evOpsB, guardOk, evOp, kindOf, evPure, evPureB, evRead, evReadB, opnd, setT, h11, h13, hidx, htn, hload, hi, Tr.get_put]
  refine ran_seq (ran_region ?_)
  simp [evOps, evOpsB, guardOk, evOp, kindOf, evPure, evPureB, opnd, avWhole, avOf, cx, setT, binA, h5, hw, hp, Tr.get_put]
  refine ran_seq (ran_region ?_)
  simp [evOps, evOpsB, guardOk, evOp, kindOf, evPure, evPureB, opnd, avWhole, avOf, setT, Tr.get_put]
  refine ran_block (ran_loop ((hbits _ (by simp [Tr.get_put]) (by simp [Tr.get_put])).mono ?_))
  rintro e t h' ⟨rfl, rfl, k5, kk⟩
  have k11 := kk 11 (by simp)
  have k12 := kk 12 (by simp)
  have k13 := kk 13 (by simp)
  simp [Tr.get_put] at k11 k12 k13
  simp only [if_true]
  refine ran_region ?_
  rw [h13] at k13
  simp [evOps, evOpsB, guardOk, evOp, kindOf, evPure, evPureB, opnd, avWhole, avOf, cx, setT, binA, arithA, k13, hadd, Tr.get_put, k5, k11, k12, h12, h11]

theorem bytes_loop {F : Nat} {c : CallH} {h : AH} {n b o cap : Nat} {ex : Bool} (hF : 8 < F) (hn : n < 2 ^ 40) : ∀ (l : List Nat) (m i : Nat) (tm : Tm) (x : Nat), i + l.length = n → l.length < m → x < 2 ^ 32 → (∀ v ∈ l, v < 256) →
    (∀ (k v : Nat), l[k]? = some v → readCells h b (o + (i + k)) 1 = some [.int .u8 v]) →
    tm.get 5 = some (.int .u32 x) → tm.get 13 = some (.int .i64 i) → tm.get 12 = some (.int .i64 n) → tm.get 11 = some (.sl b o n cap ex 1) →
    Ran (loopN (evCode F c 35 byte458) m tm h) fun e tm' h' => e = .exit 0 ∧ h' = h ∧ tm'.get 5 = some (.int .u32 (crcBytes l x))
  | [], m + 1, i, tm, x, hi, _, hx, _, _, h5, h13, h12, h11 => by
    have : i = n := by simpa using hi
    subst this
    simp only [loopN]
    have : Ran (evCode F c 35 byte458 tm h) fun e tm' h' => e = .exit 0 ∧ h' = h ∧ tm'.get 5 = some (.int .u32 x) := by
      unfold byte458
      refine ran_seq (ran_region ?_)
      simp [evOps, evOpsB, guardOk, evOp, kindOf, evPure, evPureB, opnd, avWhole, avOf, cx, setT, binA, h12, h13, cmpA, Tr.get_put]
      refine ran_seq (ran_cond_false (by simp [opnd, Tr.get_put]) (ran_exit ?_))
      simp [Tr.get_put, h5]
    obtain ⟨e, t, h', hr, rfl, rfl, g5⟩ := this.get
    rw [hr]
    exact ⟨rfl, rfl, g5⟩
  | v :: l, m + 1, i, tm, x, hi, hm, hx, hv, hc, h5, h13, h12, h11 => by
    simp only [List.length_cons] at hi hm
    obtain ⟨e, t, h', hr, rfl, rfl, g5, g13, g12, g11⟩ := (byte_step (F := F) (c := c) (h := h) (i := i) (n := n) hF hx (by omega) hn (hv v (by simp)) h5 h13 h12 h11 (by simpa using hc 0 v (by simp))).get
    simp only [loopN, hr]
    exact bytes_loop hF hn l m (i + 1) t _ (by omega) (by omega) (crcBits_lt 8 (Nat.xor_lt_two_pow hx (Nat.lt_trans (hv v (by simp)) (by decide)))) (fun u hu => hv u (by simp [hu]))
      (fun k u hk => by have := hc (k + 1) u (by simpa using hk); rwa [show i + (k + 1) = i + 1 + k by omega] at this) g5 g13 (g12.trans h12) (g11.trans h11)

theorem unx (x : Nat) (h : x < 2 ^ 32) : unA .xor (.int .u32 x) = some (.int .u32 ((Nat.xor 4294967295 x : Nat) : Int)) := by
  have e : (BitVec.ofInt 32 ((4294967295 : Nat) : Int) ^^^ BitVec.ofInt 32 (x : Int)).toNat = Nat.xor 4294967295 x := by
    rw [BitVec.toNat_xor, bv_nat x h, bv_nat _ (by decide)]; rfl
  have h2 : Nat.xor 4294967295 x < 2 ^ 32 := Nat.xor_lt_two_pow (by decide) h
  simp only [unA]
  change some (AV.int .u32 (IntKind.u32.wrap (((BitVec.ofInt 32 ((4294967295 : Nat) : Int) ^^^ BitVec.ofInt 32 (x : Int)).toNat : Nat) : Int))) = _
  rw [e, wrap_nat _ h2]

theorem crcBytes_lt : ∀ (l : List Nat) {x : Nat}, x < 2 ^ 32 → (∀ v ∈ l, v < 256) → crcBytes l x < 2 ^ 32
  | [], _, h, _ => h
  | v :: l, _, h, hv => crcBytes_lt l (crcBits_lt 8 (Nat.xor_lt_two_pow h (Nat.lt_trans (hv v (by simp)) (by decide)))) fun u hu => hv u (by simp [hu])

def body458 : ACode :=
  (.seq (.region [⟨(some 4), .move (.const (.int .u32 0)), none⟩])
 (.seq (.region [⟨(some 9), .move (.tmp 0), none⟩, ⟨(some 10), .un .xor (.tmp 9), none⟩, ⟨(some 5), .move (.tmp 10), none⟩])
 (.seq (.seq (.region [⟨(some 11), .move (.tmp 1), none⟩, ⟨(some 12), .lenOf 1 (.tmp 11), none⟩, ⟨(some 13), .move (.const (.int .i64 0)), none⟩])
 (.block 0 (.loop byte458)))
 (.seq (.region [⟨(some 33), .move (.tmp 5), none⟩, ⟨(some 34), .un .xor (.tmp 33), none⟩, ⟨(some 4), .move (.tmp 34), none⟩])
 .ret))))

def more458 (x : Nat) (l : List Nat) : Nat := Nat.xor 4294967295 (crcBytes l (Nat.xor 4294967295 x))

theorem run458 {F : Nat} {c : CallH} {h : AH} {b o cap : Nat} {ex : Bool} {x : Nat} {l : List Nat} (hF : 8 < F) (hl : l.length < F) (hn : l.length < 2 ^ 40) (hx : x < 2 ^ 32) (hv : ∀ v ∈ l, v < 256)
    (hc : ∀ (k v : Nat), l[k]? = some v → readCells h b (o + k) 1 = some [.int .u8 v]) :
    runFun F c ⟨35, [.tmp 4], body458⟩ [.int .u32 x, .sl b o l.length cap ex 1] h = some (.int .u32 (more458 x l), h) := by
  have hu := unx x hx
  have hz : Nat.xor 4294967295 x < 2 ^ 32 := Nat.xor_lt_two_pow (by decide) hx
  have hr : Ran (evCode F c 35 body458 (argsTm 0 [.int .u32 x, .sl b o l.length cap ex 1] .leaf) h) fun e t h' => e = .ret ∧ h' = h ∧ t.get 4 = some (.int .u32 (more458 x l)) := by
    unfold more458
    generalize Nat.xor 4294967295 x = y at hu hz ⊢
    have hw := unx (crcBytes l y) (crcBytes_lt l hz hv)
    generalize Nat.xor 4294967295 (crcBytes l y) = r at hw ⊢
    unfold body458
    simp only [argsTm]
    refine ran_seq (ran_region ?_)
    simp [evOps, evOpsB, guardOk, evOp, kindOf, evPure, evPureB, opnd, avWhole, avOf, setT]
    refine ran_seq (ran_region ?_)
    simp [evOps, evOpsB, guardOk, evOp, kindOf, evPure, evPureB, opnd, setT, Tr.get_put, hu]
    refine ran_seq (ran_seq (ran_region ?_))
    simp [evOps, evOpsB, guardOk, evOp, kindOf, evPure, evPureB, evRead, evReadB, opnd, avWhole, avOf, setT, Tr.get_put]
    refine ran_block (ran_loop ((bytes_loop (F := F) (c := c) (h := h) (n := l.length) (b := b) (o := o) (cap := cap) (ex := ex) hF hn l F 0 _ y (by simp) hl hz hv (fun k v hk => by rw [Nat.zero_add]; exact hc k v hk)
      (by simp [Tr.get_put]) (by simp [Tr.get_put]) (by simp [Tr.get_put]) (by simp [Tr.get_put])).mono ?_))
    rintro e t h' ⟨rfl, rfl, k5⟩
    simp only [if_true]
    refine ran_seq (ran_region ?_)
    simp [evOps, evOpsB, guardOk, evOp, kindOf, evPure, evPureB, opnd, setT, Tr.get_put, k5, hw]
    refine ran_ret ?_
    simp [Tr.get_put]
  obtain ⟨e, t, h', hr, rfl, rfl, g4⟩ := hr.get
  simp only [runFun]
  rw [if_pos (by simp)]
  rw [hr]
  simp [resA, g4]
end Go.AM
end
