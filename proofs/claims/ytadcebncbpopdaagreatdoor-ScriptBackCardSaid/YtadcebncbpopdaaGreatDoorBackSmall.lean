/-
  What ScriptBack calls besides: closed calls by the kernel; the law in whatever world, for whatever slice of bytes.
-/
import Derived.Test.YtadcebncbpopdaaGreatDoorAwake
import Derived.Test.YtadcebncbpopdaaGreatDoorBack2
set_option maxRecDepth 1000000
set_option linter.unusedSimpArgs false
set_option linter.unusedVariables false
namespace Go.AM
open Go.Proofs Go.RowKit
noncomputable abbrev run5 : CallH := acall 5000 hooksA (look tab) 100
theorem ok5 : CallOk Tryz.prog run5 := acall_ok mixed hooksA_ok funs_ok 100
def dgn (n : Nat) : List UInt8 := [UInt8.ofNat (48 + n / 64), UInt8.ofNat (48 + n / 8 % 8), UInt8.ofNat (48 + n % 8)]
theorem num_all : ((List.range 8).all fun d => chk (run5 11 [.int .i64 (d : Nat)] ⟨8, .leaf⟩) (.str [UInt8.ofNat (48 + d)]) 8 []) = true := by kernel_rfl
theorem pu_all : ((List.range 256).all fun n => chk (run5 50 [.str (dgn n), .int .i64 8, .int .i64 64] ⟨8, .leaf⟩) (.tup [.int .u64 (n : Nat), .nili]) 9 []) = true := by kernel_rfl
theorem ca_all : ((List.range 256).all fun n => chk (run5 51 [.str (dgn n), .str [95, 43, 45]] ⟨8, .leaf⟩) (.bool false) 9 []) = true := by kernel_rfl
theorem nil_run : isT (run5 5 [.nils] h0) = true := by kernel_rfl
theorem flat5 {f nx : Nat} {args : List AV} {v : AV} (he : chk (run5 f args ⟨8, .leaf⟩) v nx [] = true) (hx : 8 ≤ nx) (hb : AV.bels 0 args = true) (hv : v.bel 0 = true) (H : AH) (hH : NG ≤ H.next) : CallR Tryz.prog f args H v (H.skip (nx - 8)) := by
  have h8 : NG = 8 := rfl
  have := flat_call ok5 he (by rw [h8]; exact Nat.le_refl _) hx (AV.bels_mono (Nat.zero_le _) _ hb) hv (ρ := id) (H := H) (fun i hi => by rw [h8] at hH; exact Nat.lt_of_lt_of_le hi hH) (fun _ _ => rfl)
  rwa [rens_flat hb] at this
/-- Three octal digits that come to a byte are the byte's. -/
theorem dgn_of {t : List UInt8} (h3 : t.length = 3) (ho : t.all isOct = true) (hv : octV t 0 ≤ 255) : t = dgn (octV t 0) := by
  match t, h3 with
  | [a, b, c], _ =>
    simp only [List.all_cons, List.all_nil, isOct, Bool.and_true, Bool.and_eq_true, decide_eq_true_eq] at ho
    obtain ⟨⟨a1, a2⟩, ⟨b1, b2⟩, c1, c2⟩ := ho
    simp only [octV] at hv ⊢
    have key : ∀ (x : UInt8) (n : Nat), x.toNat = n → x = UInt8.ofNat n := fun x n h => by subst h; simp
    simp only [dgn, List.cons.injEq, and_true]
    exact ⟨key _ _ (by omega), key _ _ (by omega), key _ _ (by omega)⟩
theorem keepH {f : Nat} {args : List AV} {H : AH} {v : AV} {d : Nat} (c : CallR Tryz.prog f args H v (H.skip d)) : CallW Tryz.prog f args H fun x h' => x = v ∧ Keep H.next H h' :=
  c.mono fun x h' ⟨e1, e2⟩ => ⟨e1, by subst e2; exact ⟨Nat.le_add_right _ _, fun _ _ => rfl⟩⟩
theorem pu_ok5 (t : List UInt8) (h3 : t.length = 3) (hq : Qo t) (H : AH) (hH : NG + 1 ≤ H.next) : CallW Tryz.prog 50 [.str t, .int .i64 8, .int .i64 64] H fun v h' => PuV t v ∧ Keep H.next H h' := by
  have hd := dgn_of h3 hq.1 hq.2
  have he := List.all_eq_true.1 pu_all (octV t 0) (List.mem_range.2 (by have := hq.2; omega))
  rw [← hd] at he
  refine (keepH (flat5 he (by decide) rfl rfl H (by omega))).mono fun v h' ⟨e, k⟩ => ⟨?_, k⟩
  rw [PuV, if_pos hq.1]
  exact e
theorem ca_ok5 (t : List UInt8) (h3 : t.length = 3) (ho : t.all isOct = true) (hv : octV t 0 ≤ 255) (H : AH) (hH : NG + 1 ≤ H.next) : CallW Tryz.prog 51 [.str t, .str [95, 43, 45]] H fun v h' => v = .bool false ∧ Keep H.next H h' := by
  have hd := dgn_of h3 ho hv
  have he := List.all_eq_true.1 ca_all (octV t 0) (List.mem_range.2 (by omega))
  rw [← hd] at he
  exact keepH (flat5 he (by decide) rfl rfl H (by omega))
theorem pb : Pb Tryz.prog 0 where
  hm := mixed
  f8 := ⟨_, Tryz.func8, c8, n8⟩
  f16 := ⟨_, Tryz.func16, c16, n16⟩
  f18 := ⟨_, Tryz.func18, c18, n18⟩
  f19 := ⟨_, Tryz.func19, c19, n19⟩
  f20 := ⟨_, Tryz.func20, c20, n20⟩
  f29 := ⟨_, Tryz.func29, c29, n29⟩
  pu := pu_ok5
  ca := ca_ok5
  f5 := ⟨_, Tryz.func5, c5, n5⟩
  awake := fun H => callR_of_hook awake_hook rfl
  num := fun d hd H hH => flat5 (List.all_eq_true.1 num_all d (List.mem_range.2 hd)) (by decide) rfl rfl H hH
/-- A law that tells true out of a memory whose blocks it may not write does so in the world, and leaves what was there. -/
theorem callW_trueRo {f : Nat} {args : List AV} {h : AH} {μ : Mu} {g : G} {w : World} {Q : AV → AH → Prop} (c : CallW Tryz.prog f args h Q) (hQ : ∀ v h', Q v h' → v = .bool true) (hg : GlobOk μ) (s : St μ g h w)
    (hr : ∀ i B m, g i = some B → μ i = some m → B.isRo = true) {cargs : List Value} (ha : VRs μ args cargs) :
    Calls Tryz.prog f ⟨cargs⟩ w fun e w' => e = .returned (.bool true) ∧ Below w.heap.size w w' := by
  refine (c.2 μ g w cargs hg s ha).mono ?_
  rintro e w' ⟨v, h', v', μ', q, rfl, hv, hp⟩
  have := hQ _ _ q
  subst this
  simp only [VR] at hv
  subst hv
  exact ⟨rfl, hp.below hr⟩
def muB (m : MI) : Mu := fun i => if i = 8 then some m else muG i
def gB (B : AB) : G := fun i => if i = 8 then some B else none
noncomputable def hB (B : AB) : AH := ⟨9, Tr.leaf.put 8 (some B)⟩
theorem glob_muB (m : MI) : GlobOk (muB m) := fun i h => by
  have : i ≠ 8 := by
    intro e; subst e; revert h; decide
  unfold muB
  rw [if_neg this]
  exact glob_muG i h
theorem st_B {w : World} (hw : NG ≤ w.heap.size) {m : MI} {B : AB} (hm : m.b < w.heap.size) (hB' : ∃ o, w.heap[m.b]? = some o ∧ BR (muB m) m B o) : St (muB m) (gB B) (hB B) w where
  ext := fun i C h => by
    have h' : (Tr.leaf.put 8 (some B)).get i = some C := h
    rw [Tr.get_put] at h'
    unfold gB
    split at h'
    · rename_i e
      rw [if_pos (by simpa using e), h']
    · rw [Tr.get_leaf] at h'
      cases h'
  sim := ⟨fun i C m' h1 h2 => (by
      unfold gB at h1
      split at h1
      · rename_i e
        subst e
        cases h1
        have : m' = m := by
          unfold muB at h2
          rw [if_pos rfl] at h2
          exact (Option.some.inj h2).symm
        subst this
        exact hB'
      · cases h1), fun i j C D m1 m2 hij h1 h2 _ _ => (by
      unfold gB at h1 h2
      split at h1
      · split at h2
        · omega
        · cases h2
      · cases h1), fun i m' h => (by
      unfold muB at h
      change i < 9 ∧ _
      split at h
      · rename_i e
        cases h
        exact ⟨by omega, hm⟩
      · unfold muG at h
        split at h
        · rename_i hb
          simp only [Nat.blt_eq] at hb
          have h8 : NG = 8 := rfl
          rw [h8] at hb hw
          cases h
          exact ⟨by omega, by change i < _; omega⟩
        · cases h), fun i hi => (by
      have : (9 : Nat) ≤ i := hi
      unfold gB
      rw [if_neg (by omega)])⟩
/-- The law, for a slice of bytes. -/
theorem back_law (s : List UInt8) (w : World) (hw : NG ≤ w.heap.size) {b off cap : Nat} {cs : Array Value} {e : TypeId} {fr : Nat × Nat} (hblk : w.heap[b]? = some (.cells cs e fr)) (hcap : s.length ≤ cap) (hsz : cap ≠ 0 → off + cap ≤ cs.size)
    (hcell : ∀ k x, s[k]? = some x → cs[off + k]? = some (.int .u8 x.toNat)) :
    Calls Tryz.prog 5 #[.slice (some ⟨b, off, none⟩) s.length cap] w fun e w' => e = .returned (.bool true) ∧ Below w.heap.size w w' := by
  have hb : b < w.heap.size := (Array.getElem?_eq_some_iff.1 hblk).1
  refine callW_trueRo (h := hB (.ro e (cellsOfBytes s))) (μ := muB ⟨b, if cap = 0 then 0 else off, cs.size⟩) (g := gB (.ro e (cellsOfBytes s)))
    (back_ok pb (hB (.ro e (cellsOfBytes s))) (show NG + 1 ≤ 9 from by decide) (l := 8) (s := s) (e := e) (by change (Tr.leaf.put 8 _).get 8 = _; rw [Tr.get_put, if_pos rfl]) (show 8 < 9 from by decide)) (fun _ _ h => h) (glob_muB _) (st_B hw hb ⟨_, hblk, ?_⟩)
    (fun i B m h _ => by
      unfold gB at h
      split at h
      · cases h; rfl
      · cases h) ?_
  · simp only [BR]
    refine ⟨cs, fr, rfl, rfl, ?_, ?_⟩
    · rw [cells_length]
      split
      · omega
      · rename_i h; have := hsz h; omega
    · intro k a ha
      have : ∃ x, s[k]? = some x ∧ a = .int .u8 x.toNat := by
        simp only [cellsOfBytes, List.getElem?_map, Option.map_eq_some_iff] at ha
        obtain ⟨x, h1, h2⟩ := ha
        exact ⟨x, h1, h2.symm⟩
      obtain ⟨x, hx, rfl⟩ := this
      have hk : k < s.length := (List.getElem?_eq_some_iff.1 hx).1
      rw [if_neg (by omega)]
      exact ⟨_, hcell k x hx, by simp [VR]⟩
  · simp only [VRs]
    refine ⟨_, _, rfl, ?_, rfl⟩
    simp only [VR]
    refine ⟨_, off, cap, by unfold muB; rw [if_pos rfl], rfl, ?_, Nat.le_refl _, hcap, (fun h => by cases h), ?_⟩
    · simp only
      by_cases h : cap = 0
      · exact .inr h
      · rw [if_neg h]; exact .inl rfl
    · intro h; simp only [Nat.mul_one]; exact hsz h
/-- The law, for no slice at all. -/
theorem back_nil (w : World) (hw : NG ≤ w.heap.size) : Calls Tryz.prog 5 #[.slice none 0 0] w fun e w' => e = .returned (.bool true) ∧ Below w.heap.size w w' := by
  obtain ⟨k, hk⟩ := of_isT nil_run
  refine callW_true (callR_of_ok ok5 hk |>.mono fun v h' ⟨e, _⟩ => e) w hw ?_
  simp [VRs, VR]
end Go.AM
