/-
  AmCrc2: a part of the abstract machine that stands for runs of the program in the model: no statement of the seat is in it.
-/
import Derived.Test.YtadcebncbpopdaaGreatDoorAmHook
set_option linter.unusedSimpArgs false
noncomputable section
namespace Go.AM
/-! ## The reference's check -/

def crcAt (x v i : Nat) : Nat := match Nat.land (Nat.xor x (Nat.shiftRight v i)) 1 with
  | 0 => Nat.shiftRight x 1
  | _ => Nat.xor (Nat.shiftRight x 1) poly
/-- n bits from bit i on -/
def crcFrom (v : Nat) : Nat → Nat → Nat → Nat
  | 0, _, x => x
  | n + 1, i, x => crcFrom v n (i + 1) (crcAt x v i)

def bit614 : ACode :=
  (.seq (.seq (.region [⟨(some 17), .move (.tmp 7), none⟩, ⟨(some 18), .bin (.cmp .lss) (.tmp 17) (.const (.int .i64 8)), none⟩])
 (.cond (.tmp 18) .skip (.exit 2)))
 (.seq (.block 3 (.seq (.region [⟨(some 21), .move (.tmp 5), none⟩, ⟨(some 22), .move (.tmp 1), none⟩, ⟨(some 23), .move (.tmp 6), none⟩, ⟨(some 24), .idxAddr 1 none (.tmp 22) (.tmp 23), none⟩, ⟨(some 25), .load 1 false (.tmp 24), none⟩, ⟨(some 26), .move (.tmp 7), none⟩, ⟨(some 27), .conv (.int .u64) (.tmp 26), none⟩, ⟨(some 28), .bin (.shift .shr) (.tmp 25) (.tmp 27), none⟩, ⟨(some 29), .conv (.int .u32) (.tmp 28), none⟩, ⟨(some 30), .bin (.bits .xor) (.tmp 21) (.tmp 29), none⟩, ⟨(some 31), .bin (.bits .and) (.tmp 30) (.const (.int .u32 1)), none⟩, ⟨(some 8), .move (.tmp 31), none⟩])
 (.seq (.region [⟨(some 32), .move (.tmp 5), none⟩, ⟨(some 33), .bin (.shift .shr) (.tmp 32) (.const (.int .u64 1)), none⟩, ⟨(some 5), .move (.tmp 33), none⟩])
 (.seq (.region [⟨(some 34), .move (.tmp 8), none⟩, ⟨(some 35), .bin (.cmp .eql) (.tmp 34) (.const (.int .u32 1)), none⟩])
 (.cond (.tmp 35) (.region [⟨(some 36), .move (.tmp 5), none⟩, ⟨(some 37), .bin (.bits .xor) (.tmp 36) (.const (.int .u32 2197175160)), none⟩, ⟨(some 5), .move (.tmp 37), none⟩]) .skip)))))
 (.region [⟨(some 19), .move (.tmp 7), none⟩, ⟨(some 20), .bin (.arith .add) (.tmp 19) (.const (.int .i64 1)), none⟩, ⟨(some 7), .move (.tmp 20), none⟩])))

theorem shr8 (v i : Nat) (hv : v < 256) (hi : i < 8) : shiftA .shr (.int .u8 v) (.int .u64 i) = some (.int .u8 ((Nat.shiftRight v i : Nat) : Int)) := by
  have hle : Nat.shiftRight v i ≤ v := Nat.shiftRight_le v i
  have e : ((v : Int)).fdiv (2 ^ min ((i : Int)).toNat 8) = ((Nat.shiftRight v i : Nat) : Int) := by
    have h1 : Nat.shiftRight v i = v / 2 ^ i := Nat.shiftRight_eq_div_pow v i
    have h2 : min ((i : Int)).toNat 8 = i := by omega
    rw [h1, h2, Int.fdiv_eq_ediv_of_nonneg _ (by have : (0 : Int) < 2 ^ i := Int.pow_pos (by decide); omega)]
    simp
  have hw : IntKind.u8.wrap ((Nat.shiftRight v i : Nat) : Int) = ((Nat.shiftRight v i : Nat) : Int) := by
    have : IntKind.u8.wrap ((Nat.shiftRight v i : Nat) : Int) = ((Nat.shiftRight v i : Nat) : Int) % (2 ^ 8 : Int) := by
      simp [IntKind.wrap, IntKind.bits, IntKind.signed]
    rw [this]; omega
  have hn : ¬ ((i : Int) < 0) := by omega
  simp only [shiftA, IntKind.bits, e, hw, hn, if_false]

theorem bit_step614 {F : Nat} {c : CallH} {tm : Tm} {h : AH} {x v i k n b o cap : Nat} {ex : Bool} (hx : x < 2 ^ 32) (hv : v < 256) (hi : i < 8) (hk : k < n) (h5 : tm.get 5 = some (.int .u32 x)) (h7 : tm.get 7 = some (.int .i64 i))
    (h6 : tm.get 6 = some (.int .i64 k)) (h1 : tm.get 1 = some (.sl b o n cap ex 1)) (hc : readCells h b (o + k) 1 = some [.int .u8 v]) :
    Ran (evCode F c 40 bit614 tm h) fun e tm' h' => e = .normal ∧ h' = h ∧ tm'.get 5 = some (.int .u32 (crcAt x v i)) ∧ tm'.get 7 = some (.int .i64 ((i + 1 : Nat) : Int)) ∧ tm'.get 6 = tm.get 6 ∧ tm'.get 1 = tm.get 1 := by
  have hadd : IntKind.i64.wrap ((i : Int) + 1) = ((i + 1 : Nat) : Int) := by rw [wrap_i64 _ (by omega) (by omega)]; omega
  have hload : loadA h 1 false (.ptr b (o + k)) = some (.int .u8 v) := by simp [loadA, hc]
  have hidx : (0 : Int) ≤ (k : Int) ∧ (k : Int) < (n : Int) ∧ 1 = 1 := by omega
  have htn : ((k : Int)).toNat = k := by omega
  have h64 : IntKind.u64.wrap (i : Int) = (i : Int) := by
    have : IntKind.u64.wrap (i : Int) = (i : Int) % (2 ^ 64 : Int) := by simp [IntKind.wrap, IntKind.bits, IntKind.signed]
    rw [this]; omega
  have hs8 := shr8 v i hv hi
  have hle : Nat.shiftRight v i ≤ v := Nat.shiftRight_le v i
  have hw := wrap_nat (Nat.shiftRight v i) (by omega)
  have hx1 := xorp x (Nat.shiftRight v i) hx (by omega)
  have hxl : Nat.xor x (Nat.shiftRight v i) < 2 ^ 32 := Nat.xor_lt_two_pow hx (by omega)
  have ha := and1 _ hxl
  have hl : Nat.land (Nat.xor x (Nat.shiftRight v i)) 1 = (Nat.xor x (Nat.shiftRight v i)) % 2 := Nat.and_one_is_mod _
  have hb : crcAt x v i = if (Nat.xor x (Nat.shiftRight v i)) % 2 = 0 then Nat.shiftRight x 1 else Nat.xor (Nat.shiftRight x 1) poly := by
    unfold crcAt
    rw [hl]
    rcases Nat.mod_two_eq_zero_or_one (Nat.xor x (Nat.shiftRight v i)) with e | e <;> rw [e] <;> rfl
  rw [hl] at ha
  rw [hb]
  generalize Nat.xor x (Nat.shiftRight v i) = q at hx1 hxl ha ⊢
  generalize Nat.shiftRight v i = u at hs8 hw hx1
  have hs := shr1 x hx
  have h2 : Nat.shiftRight x 1 < 2 ^ 32 := by
    have h1 : Nat.shiftRight x 1 = x / 2 := Nat.shiftRight_succ x 0
    omega
  have hp := xorp (Nat.shiftRight x 1) 2197175160 h2 (by decide)
  have hpc : ((2197175160 : Nat) : Int) = 2197175160 := rfl
  rw [hpc] at hp
  have hpo : Nat.xor (Nat.shiftRight x 1) poly = Nat.xor (Nat.shiftRight x 1) 2197175160 := rfl
  rw [hpo]
  generalize Nat.xor (Nat.shiftRight x 1) 2197175160 = z at hp ⊢
  generalize Nat.shiftRight x 1 = y at hs h2 hp ⊢
  have e1 : ((1 : Nat) : Int) = 1 := rfl
  have e0 : ((0 : Nat) : Int) = 0 := rfl
  unfold bit614
  refine ran_seq (ran_seq (ran_region ?_))
  simp [evOps, evOpsB, guardOk, evOp, kindOf, evPure, evPureB, opnd, avWhole, avOf, cx, setT, binA, h7, cmpA, hi, Tr.get_put]
  refine ran_cond_true (by simp [opnd, Tr.get_put]; omega) (ran_skip ?_)
  refine ran_seq (ran_block (ran_seq (ran_region ?_)))
  simp [evOps, evOpsB, guardOk, evOp, kindOf, evPure, evPureB, evRead, evReadB, opnd, avWhole, avOf, cx, setT, binA, h5, h1, h6, h7, hk, hidx, htn, hload, h64, hs8, hw, hx1, Tr.get_put]
  rcases Nat.mod_two_eq_zero_or_one q with e | e <;> rw [e] at ha ⊢
  · rw [e0] at ha
    simp [ha]
    refine ran_seq (ran_region ?_)
    simp [evOps, evOpsB, guardOk, evOp, kindOf, evPure, evPureB, opnd, avWhole, avOf, cx, setT, binA, h5, hs, Tr.get_put]
    refine ran_seq (ran_region ?_)
    simp [evOps, evOpsB, guardOk, evOp, kindOf, evPure, evPureB, opnd, avWhole, avOf, cx, setT, binA, cmpA, Tr.get_put]
    refine ran_cond_false (by simp [opnd, Tr.get_put]) (ran_skip ?_)
    refine ran_region ?_
    simp [evOps, evOpsB, guardOk, evOp, kindOf, evPure, evPureB, opnd, avWhole, avOf, cx, setT, binA, arithA, h7, h6, h1, hadd, Tr.get_put]
  · rw [e1] at ha
    simp [ha]
    refine ran_seq (ran_region ?_)
    simp [evOps, evOpsB, guardOk, evOp, kindOf, evPure, evPureB, opnd, avWhole, avOf, cx, setT, binA, h5, hs, Tr.get_put]
    refine ran_seq (ran_region ?_)
    simp [evOps, evOpsB, guardOk, evOp, kindOf, evPure, evPureB, opnd, avWhole, avOf, cx, setT, binA, cmpA, Tr.get_put]
    refine ran_cond_true (by simp [opnd, Tr.get_put]) (ran_region ?_)
    simp [evOps, evOpsB, guardOk, evOp, kindOf, evPure, evPureB, opnd, avWhole, avOf, cx, setT, binA, hp, Tr.get_put]
    refine ran_region ?_
    simp [evOps, evOpsB, guardOk, evOp, kindOf, evPure, evPureB, opnd, avWhole, avOf, cx, setT, binA, arithA, h7, h6, h1, hadd, Tr.get_put]

theorem crcAt_lt {x v i : Nat} (h : x < 2 ^ 32) : crcAt x v i < 2 ^ 32 := by
  have h2 : Nat.shiftRight x 1 < 2 ^ 32 := by
    have h1 : Nat.shiftRight x 1 = x / 2 := Nat.shiftRight_succ x 0
    omega
  unfold crcAt
  split
  · exact h2
  · exact Nat.xor_lt_two_pow h2 (by decide)
theorem crcFrom_lt {v : Nat} : ∀ (n i : Nat) {x : Nat}, x < 2 ^ 32 → crcFrom v n i x < 2 ^ 32
  | 0, _, _, h => h
  | n + 1, i, _, h => crcFrom_lt n (i + 1) (crcAt_lt h)

theorem bits_loop614 {F : Nat} {c : CallH} {h : AH} {v k n b o cap : Nat} {ex : Bool} (hv : v < 256) (hk : k < n) (hc : readCells h b (o + k) 1 = some [.int .u8 v]) : ∀ (j m i : Nat) (tm : Tm) (x : Nat), i + j = 8 → j < m → x < 2 ^ 32 →
    tm.get 5 = some (.int .u32 x) → tm.get 7 = some (.int .i64 i) → tm.get 6 = some (.int .i64 k) → tm.get 1 = some (.sl b o n cap ex 1) →
    Ran (loopN (evCode F c 40 bit614) m tm h) fun e tm' h' => e = .exit 2 ∧ h' = h ∧ tm'.get 5 = some (.int .u32 (crcFrom v j i x)) ∧ tm'.get 6 = tm.get 6 ∧ tm'.get 1 = tm.get 1
  | 0, m + 1, i, tm, x, hi, _, hx, h5, h7, h6, h1 => by
    have : i = 8 := by omega
    subst this
    have : Ran (evCode F c 40 bit614 tm h) fun e tm' h' => e = .exit 2 ∧ h' = h ∧ tm'.get 5 = some (.int .u32 x) ∧ tm'.get 6 = tm.get 6 ∧ tm'.get 1 = tm.get 1 := by
      have h8 : ((8 : Nat) : Int) = 8 := rfl
      rw [h8] at h7
      unfold bit614
      refine ran_seq (ran_seq (ran_region ?_))
      simp [evOps, evOpsB, guardOk, evOp, kindOf, evPure, evPureB, opnd, avWhole, avOf, cx, setT, binA, h7, cmpA, Tr.get_put]
      refine ran_cond_false (by simp [opnd, Tr.get_put]) (ran_exit ?_)
      simp [Tr.get_put, h5]
    obtain ⟨e, t, h', hr, rfl, rfl, g5, g6, g1⟩ := this.get
    simp only [loopN, hr]
    exact ⟨rfl, rfl, g5, g6, g1⟩
  | j + 1, m + 1, i, tm, x, hi, hm, hx, h5, h7, h6, h1 => by
    obtain ⟨e, t, h', hr, rfl, rfl, g5, g7, g6, g1⟩ := (bit_step614 (F := F) (c := c) (h := h) hx hv (by omega) hk h5 h7 h6 h1 hc).get
    simp only [loopN, hr]
    refine (bits_loop614 hv hk hc j m (i + 1) t _ (by omega) (by omega) (crcAt_lt hx) g5 g7 (g6.trans h6) (g1.trans h1)).mono ?_
    rintro e t' h'' ⟨rfl, rfl, k5, k6, k1⟩
    exact ⟨rfl, rfl, k5, k6.trans g6, k1.trans g1⟩

def crcRef : List Nat → Nat → Nat
  | [], x => x
  | v :: r, x => crcRef r (crcFrom v 8 0 x)
theorem crcRef_lt : ∀ (l : List Nat) {x : Nat}, x < 2 ^ 32 → crcRef l x < 2 ^ 32
  | [], _, h => h
  | _ :: l, _, h => crcRef_lt l (crcFrom_lt 8 0 h)

def byte614 : ACode :=
  (.seq (.seq (.region [⟨(some 11), .move (.tmp 6), none⟩, ⟨(some 12), .move (.tmp 1), none⟩, ⟨(some 13), .lenOf 1 (.tmp 12), none⟩, ⟨(some 14), .bin (.cmp .lss) (.tmp 11) (.tmp 13), none⟩])
 (.cond (.tmp 14) .skip (.exit 0)))
 (.seq (.block 1 (.seq (.region [⟨(some 7), .move (.const (.int .i64 0)), none⟩])
 (.block 2 (.loop bit614))))
 (.region [⟨(some 15), .move (.tmp 6), none⟩, ⟨(some 16), .bin (.arith .add) (.tmp 15) (.const (.int .i64 1)), none⟩, ⟨(some 6), .move (.tmp 16), none⟩])))

theorem byte_step614 {F : Nat} {c : CallH} {tm : Tm} {h : AH} {x v k n b o cap : Nat} {ex : Bool} (hF : 8 < F) (hx : x < 2 ^ 32) (hv : v < 256) (hk : k < n) (hn : n < 2 ^ 40) (h5 : tm.get 5 = some (.int .u32 x))
    (h6 : tm.get 6 = some (.int .i64 k)) (h1 : tm.get 1 = some (.sl b o n cap ex 1)) (hc : readCells h b (o + k) 1 = some [.int .u8 v]) :
    Ran (evCode F c 40 byte614 tm h) fun e tm' h' => e = .normal ∧ h' = h ∧ tm'.get 5 = some (.int .u32 (crcFrom v 8 0 x)) ∧ tm'.get 6 = some (.int .i64 ((k + 1 : Nat) : Int)) ∧ tm'.get 1 = tm.get 1 := by
  have hadd : IntKind.i64.wrap ((k : Int) + 1) = ((k + 1 : Nat) : Int) := by rw [wrap_i64 _ (by omega) (by omega)]; omega
  unfold byte614
  refine ran_seq (ran_seq (ran_region ?_))
  simp [evOps, evOpsB, guardOk, evOp, kindOf, evPure, evPureB, evRead, evReadB, opnd, avWhole, avOf, cx, setT, binA, h6, h1, cmpA, hk, Tr.get_put]
  refine ran_cond_true (by simp [opnd, Tr.get_put]) (ran_skip ?_)
  refine ran_seq (ran_block (ran_seq (ran_region ?_)))
  simp [evOps, evOpsB, guardOk, evOp, kindOf, evPure, evPureB, opnd, avWhole, avOf, setT, Tr.get_put]
  refine ran_block (ran_loop ((bits_loop614 (F := F) (c := c) (h := h) (cap := cap) (ex := ex) hv hk hc 8 F 0 _ x (by omega) hF hx (by simp [Tr.get_put, h5]) (by simp [Tr.get_put]) (by simp [Tr.get_put, h6]) (by simp [Tr.get_put, h1])).mono ?_))
  rintro e t h' ⟨rfl, rfl, k5, k6, k1⟩
  simp [Tr.get_put] at k6 k1
  simp only [if_true]
  refine ran_region ?_
  rw [h6] at k6
  simp [evOps, evOpsB, guardOk, evOp, kindOf, evPure, evPureB, opnd, avWhole, avOf, cx, setT, binA, arithA, k6, hadd, Tr.get_put, k5, k1, h1]

theorem bytes_loop614 {F : Nat} {c : CallH} {h : AH} {n b o cap : Nat} {ex : Bool} (hF : 8 < F) (hn : n < 2 ^ 40) : ∀ (l : List Nat) (m i : Nat) (tm : Tm) (x : Nat), i + l.length = n → l.length < m → x < 2 ^ 32 → (∀ v ∈ l, v < 256) →
    (∀ (k v : Nat), l[k]? = some v → readCells h b (o + (i + k)) 1 = some [.int .u8 v]) →
    tm.get 5 = some (.int .u32 x) → tm.get 6 = some (.int .i64 i) → tm.get 1 = some (.sl b o n cap ex 1) →
    Ran (loopN (evCode F c 40 byte614) m tm h) fun e tm' h' => e = .exit 0 ∧ h' = h ∧ tm'.get 5 = some (.int .u32 (crcRef l x))
  | [], m + 1, i, tm, x, hi, _, hx, _, _, h5, h6, h1 => by
    have : i = n := by simpa using hi
    subst this
    simp only [loopN]
    have : Ran (evCode F c 40 byte614 tm h) fun e tm' h' => e = .exit 0 ∧ h' = h ∧ tm'.get 5 = some (.int .u32 x) := by
      unfold byte614
      refine ran_seq (ran_seq (ran_region ?_))
      simp [evOps, evOpsB, guardOk, evOp, kindOf, evPure, evPureB, evRead, evReadB, opnd, avWhole, avOf, cx, setT, binA, h6, h1, cmpA, Tr.get_put]
      refine ran_cond_false (by simp [opnd, Tr.get_put]) (ran_exit ?_)
      simp [Tr.get_put, h5]
    obtain ⟨e, t, h', hr, rfl, rfl, g5⟩ := this.get
    rw [hr]
    exact ⟨rfl, rfl, g5⟩
  | v :: l, m + 1, i, tm, x, hi, hm, hx, hv, hc, h5, h6, h1 => by
    simp only [List.length_cons] at hi hm
    obtain ⟨e, t, h', hr, rfl, rfl, g5, g6, g1⟩ := (byte_step614 (F := F) (c := c) (h := h) (k := i) (n := n) hF hx (hv v (by simp)) (by omega) hn h5 h6 h1 (by simpa using hc 0 v (by simp))).get
    simp only [loopN, hr]
    exact bytes_loop614 hF hn l m (i + 1) t _ (by omega) (by omega) (crcFrom_lt 8 0 hx) (fun u hu => hv u (by simp [hu]))
      (fun k u hk => by have := hc (k + 1) u (by simpa using hk); rwa [show i + (k + 1) = i + 1 + k by omega] at this) g5 g6 (g1.trans h1)

def body614 : ACode :=
  (.seq (.region [⟨(some 4), .move (.const (.int .u32 0)), none⟩])
 (.seq (.region [⟨(some 9), .move (.tmp 0), none⟩, ⟨(some 10), .bin (.bits .xor) (.tmp 9) (.const (.int .u32 4294967295)), none⟩, ⟨(some 5), .move (.tmp 10), none⟩])
 (.seq (.seq (.region [⟨(some 6), .move (.const (.int .i64 0)), none⟩])
 (.block 0 (.loop byte614)))
 (.seq (.region [⟨(some 38), .move (.tmp 5), none⟩, ⟨(some 39), .bin (.bits .xor) (.tmp 38) (.const (.int .u32 4294967295)), none⟩, ⟨(some 4), .move (.tmp 39), none⟩])
 .ret))))

def more614 (x : Nat) (l : List Nat) : Nat := Nat.xor (crcRef l (Nat.xor x 4294967295)) 4294967295

theorem run614 {F : Nat} {c : CallH} {h : AH} {b o cap : Nat} {ex : Bool} {x : Nat} {l : List Nat} (hF : 8 < F) (hl : l.length < F) (hn : l.length < 2 ^ 40) (hx : x < 2 ^ 32) (hv : ∀ v ∈ l, v < 256)
    (hc : ∀ (k v : Nat), l[k]? = some v → readCells h b (o + k) 1 = some [.int .u8 v]) :
    runFun F c ⟨40, [.tmp 4], body614⟩ [.int .u32 x, .sl b o l.length cap ex 1] h = some (.int .u32 (more614 x l), h) := by
  have hcc : ((4294967295 : Nat) : Int) = 4294967295 := rfl
  have hu := xorp x 4294967295 hx (by decide)
  have hz : Nat.xor x 4294967295 < 2 ^ 32 := Nat.xor_lt_two_pow hx (by decide)
  rw [hcc] at hu
  have hr : Ran (evCode F c 40 body614 (argsTm 0 [.int .u32 x, .sl b o l.length cap ex 1] .leaf) h) fun e t h' => e = .ret ∧ h' = h ∧ t.get 4 = some (.int .u32 (more614 x l)) := by
    unfold more614
    generalize Nat.xor x 4294967295 = y at hu hz ⊢
    have hw := xorp (crcRef l y) 4294967295 (crcRef_lt l hz) (by decide)
    rw [hcc] at hw
    generalize Nat.xor (crcRef l y) 4294967295 = r at hw ⊢
    unfold body614
    simp only [argsTm]
    refine ran_seq (ran_region ?_)
    simp [evOps, evOpsB, guardOk, evOp, kindOf, evPure, evPureB, opnd, avWhole, avOf, setT]
    refine ran_seq (ran_region ?_)
    simp [evOps, evOpsB, guardOk, evOp, kindOf, evPure, evPureB, opnd, avWhole, avOf, cx, binA, setT, Tr.get_put, hu]
    refine ran_seq (ran_seq (ran_region ?_))
    simp [evOps, evOpsB, guardOk, evOp, kindOf, evPure, evPureB, opnd, avWhole, avOf, setT, Tr.get_put]
    refine ran_block (ran_loop ((bytes_loop614 (F := F) (c := c) (h := h) (n := l.length) (b := b) (o := o) (cap := cap) (ex := ex) hF hn l F 0 _ y (by simp) hl hz hv (fun k v hk => by rw [Nat.zero_add]; exact hc k v hk)
      (by simp [Tr.get_put]) (by simp [Tr.get_put]) (by simp [Tr.get_put])).mono ?_))
    rintro e t h' ⟨rfl, rfl, k5⟩
    simp only [if_true]
    refine ran_seq (ran_region ?_)
    simp [evOps, evOpsB, guardOk, evOp, kindOf, evPure, evPureB, opnd, avWhole, avOf, cx, binA, setT, Tr.get_put, k5, hw]
    refine ran_ret ?_
    simp [Tr.get_put]
  obtain ⟨e, t, h', hr, rfl, rfl, g4⟩ := hr.get
  simp only [runFun]
  rw [if_pos (by simp)]
  rw [hr]
  simp [resA, g4]

/-- cellaretref1.More -/
def hook614 : List AV → AH → R := fun args h => match args with
  | [.int .u32 (.ofNat x), .sl b o n _ _ 1] => match Nat.blt x 4294967296, Nat.blt n 100000, readCells h b o n with
    | true, true, some cs => match natsOf cs with
      | some l => if l.length = n then some (.int .u32 ((more614 x l : Nat) : Int), h) else none
      | none => none
    | _, _, _ => none
  | _ => none

theorem hook614_run {P : Program} : ∀ args h v h', hook614 args h = some (v, h') → ∃ c, CallOk P c ∧ runFun 100000 c ⟨40, [.tmp 4], body614⟩ args h = some (v, h') := by
  intro args h v h' he
  unfold hook614 at he
  split at he
  · rename_i x b o n cap ex
    split at he
    · rename_i cs hx hn hr
      split at he
      · rename_i l hl
        split at he
        · rename_i hlen
          simp only [Option.some.injEq, Prod.mk.injEq] at he
          obtain ⟨rfl, rfl⟩ := he
          obtain ⟨h1, h2, h3⟩ := natsOf_ok hl
          have hx' : x < 4294967296 := by simp [Nat.blt] at hx; omega
          have hn' : n < 100000 := by simp [Nat.blt] at hn; omega
          subst hlen
          exact ⟨_, callOk_none, run614 (by decide) hn' (by omega) hx' h2 fun k v hk => read_one hr (h3 k v hk)⟩
        · cases he
      · cases he
    · cases he
  · cases he
end Go.AM
end
