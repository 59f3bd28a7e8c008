/-
  AmPart: a part of the abstract machine that stands for runs of the program in the model: no statement of the seat is in it.
-/
import Derived.Test.YtadcebncbpopdaaGreatDoorAmSym
set_option linter.unusedSimpArgs false
noncomputable section
namespace Go.AM
/-! ## Calls that were run wholly, used in whatever memory -/
mutual
theorem AV.ren_id {ρ : Nat → Nat} (h : ∀ i, ρ i = i) : ∀ a : AV, a.ren ρ = a
  | .ptr i o => by simp [AV.ren, h]
  | .sl i .. => by simp [AV.ren, h]
  | .map i => by simp [AV.ren, h]
  | .fn f x y => by simp [AV.ren, AV.rens_id h x, AV.rens_id h y]
  | .ifc t v => by simp [AV.ren, AV.ren_id h v]
  | .agg cs => by simp [AV.ren, AV.rens_id h cs]
  | .tup cs => by simp [AV.ren, AV.rens_id h cs]
  | .bool _ => rfl
  | .int .. => rfl
  | .str _ => rfl
  | .nilp => rfl
  | .nils => rfl
  | .nilm => rfl
  | .nilf => rfl
  | .nili => rfl
theorem AV.rens_id {ρ : Nat → Nat} (h : ∀ i, ρ i = i) : ∀ a : List AV, AV.rens ρ a = a
  | [] => rfl
  | x :: xs => by simp [AV.rens, AV.ren_id h x, AV.rens_id h xs]
end
theorem ren_flat {ρ : Nat → Nat} {a : AV} (h : a.bel 0 = true) : a.ren ρ = a := by
  rw [AV.ren_congr (n := 0) (ρ' := id) (fun i hi => absurd hi (Nat.not_lt_zero i)) a h, AV.ren_id (ρ := id) (fun _ => rfl)]
theorem rens_flat {ρ : Nat → Nat} {a : List AV} (h : AV.bels 0 a = true) : AV.rens ρ a = a := by
  rw [AV.rens_congr (n := 0) (ρ' := id) (fun i hi => absurd hi (Nat.not_lt_zero i)) a h, AV.rens_id (ρ := id) (fun _ => rfl)]
mutual
theorem AV.bel_mono {n m : Nat} (h : n ≤ m) : ∀ a : AV, a.bel n = true → a.bel m = true
  | .ptr i o, b => by simp only [AV.bel, Nat.blt_eq] at b ⊢; omega
  | .sl i .., b => by simp only [AV.bel, Nat.blt_eq] at b ⊢; omega
  | .map i, b => by simp only [AV.bel, Nat.blt_eq] at b ⊢; omega
  | .fn f x y, b => by simp only [AV.bel, Bool.and_eq_true] at b ⊢; exact ⟨AV.bels_mono h x b.1, AV.bels_mono h y b.2⟩
  | .ifc t v, b => by simp only [AV.bel] at b ⊢; exact AV.bel_mono h v b
  | .agg cs, b => by simp only [AV.bel] at b ⊢; exact AV.bels_mono h cs b
  | .tup cs, b => by simp only [AV.bel] at b ⊢; exact AV.bels_mono h cs b
  | .bool _, _ => rfl
  | .int .., _ => rfl
  | .str _, _ => rfl
  | .nilp, _ => rfl
  | .nils, _ => rfl
  | .nilm, _ => rfl
  | .nilf, _ => rfl
  | .nili, _ => rfl
theorem AV.bels_mono {n m : Nat} (h : n ≤ m) : ∀ a : List AV, AV.bels n a = true → AV.bels m a = true
  | [], _ => rfl
  | x :: xs, b => by simp only [AV.bels, Bool.and_eq_true] at b ⊢; exact ⟨AV.bel_mono h x b.1, AV.bels_mono h xs b.2⟩
end

def AB.beqC : AB → AB → Bool
  | .cells x f e c, .cells y g k d => x == y && f == g && Nat.beq e k && AV.beqs c d
  | _, _ => false
theorem AB.beqC_eq {a b : AB} (h : AB.beqC a b = true) : a = b ∧ b.isRo = false := by
  cases a <;> cases b <;> simp only [AB.beqC, Bool.and_eq_true, beq_iff_eq] at h <;> (try (cases h; done))
  obtain ⟨⟨⟨h1, h2⟩, h3⟩, h4⟩ := h
  have h3' := Nat.eq_of_beq_eq_true h3
  have h4' := AV.beqs_eq _ _ h4
  subst h1; subst h2; subst h3'; subst h4'
  exact ⟨rfl, rfl⟩

/-- Does a run tell this, and leave this? -/
def chk (r : R) (v : AV) (nx : Nat) (bs : List (Nat × AB)) : Bool := match r with
  | some (x, k) => AV.beq x v && (Nat.beq k.next nx && bs.all fun b => match k.get b.1 with | some C => AB.beqC C b.2 | none => false)
  | none => false
theorem of_chk {r : R} {v : AV} {nx : Nat} {bs : List (Nat × AB)} (h : chk r v nx bs = true) : ∃ k, r = some (v, k) ∧ k.next = nx ∧ ∀ b ∈ bs, k.get b.1 = some b.2 ∧ b.2.isRo = false := by
  unfold chk at h
  split at h
  · rename_i x k
    simp only [Bool.and_eq_true, List.all_eq_true] at h
    obtain ⟨h1, h2, h3⟩ := h
    have := AV.beq_eq _ _ h1
    subst this
    refine ⟨k, rfl, Nat.eq_of_beq_eq_true h2, fun b hb => ?_⟩
    have := h3 b hb
    split at this
    · rename_i C hC
      obtain ⟨e, hr⟩ := AB.beqC_eq this
      exact ⟨by rw [hC, e], hr⟩
    · cases this
  · cases h

section
variable {P : Program} {callH : CallH}

/-- A call whose arguments name blocks at the most (nothing is known of what these hold) and that tells a value that names none. -/
theorem flat_call (hC : CallOk P callH) {f n nx : Nat} {args : List AV} {v : AV} (he : chk (callH f args ⟨n, .leaf⟩) v nx [] = true) (hn : NG ≤ n) (hx : n ≤ nx) (hb : AV.bels n args = true) (hv : v.bel 0 = true)
    {ρ : Nat → Nat} {H : AH} (hρ : ∀ i, i < n → ρ i < H.next) (hg : ∀ i, i < NG → ρ i = i) : CallR P f (AV.rens ρ args) H v (H.skip (nx - n)) := by
  obtain ⟨k, hk, hnx, _⟩ := of_chk he
  subst hnx
  refine CallW.frame (h := ⟨n, .leaf⟩) (callR_of_ok hC hk) ρ ⟨fun i j _ _ hi => by simp [AH.get] at hi, hρ, fun i B h => by simp [AH.get] at h⟩ hb (fun i hi => ⟨Nat.lt_of_lt_of_le hi hn, hg i hi⟩) ?_
  rintro x k' ⟨rfl, rfl⟩
  refine ⟨hx, H.skip (k'.next - n), ⟨rfl, fun i _ h => by simp [AH.get] at h, fun j _ _ => rfl, fun j B _ h1 h2 => ?_⟩, ren_flat hv, rfl⟩
  rw [AH.get_skip, h1] at h2
  cases h2

/-- The same where the value names one new block, which is kept. -/
theorem keep_call (hC : CallOk P callH) {f n nx kb : Nat} {args : List AV} {v : AV} {B : AB} (he : chk (callH f args ⟨n, .leaf⟩) v nx [(kb, B)] = true) (hn : NG ≤ n) (hx : n ≤ nx) (hk : n ≤ kb) (hb : AV.bels n args = true)
    {ρ : Nat → Nat} {H : AH} (hρ : ∀ i, i < n → ρ i < H.next) (hg : ∀ i, i < NG → ρ i = i) : CallR P f (AV.rens ρ args) H (v.ren (reno ρ n H.next)) ((H.skip (nx - n)).set (kb - n + H.next) (B.ren (reno ρ n H.next))) := by
  obtain ⟨k, hk', hnx, hB⟩ := of_chk he
  subst hnx
  obtain ⟨hB1, hB2⟩ := hB _ (List.mem_singleton.2 rfl)
  refine CallW.frame (h := ⟨n, .leaf⟩) (callR_of_ok hC hk') ρ ⟨fun i j _ _ hi => by simp [AH.get] at hi, hρ, fun i B h => by simp [AH.get] at h⟩ hb (fun i hi => ⟨Nat.lt_of_lt_of_le hi hn, hg i hi⟩) ?_
  rintro x k' ⟨rfl, rfl⟩
  refine ⟨hx, _, ⟨rfl, fun i _ h => by simp [AH.get] at h, fun j hj _ => ?_, fun j C hj h1 h2 => ?_⟩, rfl, rfl⟩
  · have : j ≠ kb - n + H.next := by omega
    simp [this]
  · rw [AH.get_set] at h2
    split at h2
    · rename_i e
      subst e
      cases h2
      refine ⟨B, ?_, hB2, rfl⟩
      have : kb - n + H.next - H.next + n = kb := by omega
      change k'.get (kb - n + H.next - H.next + n) = some B
      rw [this]; exact hB1
    · rw [AH.get_skip, h1] at h2
      cases h2

/-- A call in a part of memory that is whole but for what it names below n: one block, read. -/
theorem part_call (hC : CallOk P callH) {f n nx kb : Nat} {args : List AV} {v : AV} {A B : AB} {b : Nat} (he : chk (callH f args ⟨n, Tr.leaf.put b (some A)⟩) v nx [(b, A), (kb, B)] = true) (hn : NG ≤ n) (hx : n ≤ nx) (hk : n ≤ kb) (hbn : b < n) (hA : A.bel n = true) (hb : AV.bels n args = true)
    {ρ : Nat → Nat} {H : AH} (hρ : ∀ i, i < n → ρ i < H.next) (hg : ∀ i, i < NG → ρ i = i) (hH : H.get (ρ b) = some (A.ren ρ)) :
    CallR P f (AV.rens ρ args) H (v.ren (reno ρ n H.next)) ((H.skip (nx - n)).set (kb - n + H.next) (B.ren (reno ρ n H.next))) := by
  obtain ⟨k, hk', hnx, hB⟩ := of_chk he
  subst hnx
  obtain ⟨hA1, hA2⟩ := hB (b, A) (List.mem_cons_self ..)
  obtain ⟨hB1, hB2⟩ := hB (kb, B) (List.mem_cons_of_mem _ (List.mem_singleton.2 rfl))
  have hget : ∀ i C, (AH.mk n (Tr.leaf.put b (some A))).get i = some C → i = b ∧ C = A := fun i C h => by
    simp only [AH.get, Tr.get_put, Tr.get_leaf] at h
    split at h
    · rename_i e; exact ⟨e, (Option.some.inj h).symm⟩
    · cases h
  have hsome : ∀ i, ((AH.mk n (Tr.leaf.put b (some A))).get i).isSome = true → i = b := fun i h => by
    obtain ⟨C, hC⟩ := Option.isSome_iff_exists.1 h
    exact (hget i C hC).1
  refine CallW.frame (h := ⟨n, Tr.leaf.put b (some A)⟩) (callR_of_ok hC hk') ρ ⟨fun i j _ _ hi hj _ => (hsome i hi).trans (hsome j hj).symm, hρ, fun i C h => ?_⟩ hb (fun i hi => ⟨Nat.lt_of_lt_of_le hi hn, hg i hi⟩) ?_
  · obtain ⟨rfl, rfl⟩ := hget i C h
    exact ⟨hbn, hA, hH⟩
  rintro x k' ⟨rfl, rfl⟩
  refine ⟨hx, _, ⟨rfl, fun i hi h => ?_, fun j hj _ => ?_, fun j C hj h1 h2 => ?_⟩, rfl, rfl⟩
  · have := hsome i h
    subst this
    have hlt := hρ i hbn
    have hne : ρ i ≠ kb - n + H.next := by omega
    simp only [AH.get_set, hne, if_false, AH.get_skip, hH]
    change _ = (k'.get i).map _
    rw [hA1]
    exact congrArg some (ren_congr hA fun j hj => by simp [reno, hj])
  · have : j ≠ kb - n + H.next := by omega
    simp [this]
  · rw [AH.get_set] at h2
    split at h2
    · rename_i e
      subst e
      cases h2
      refine ⟨B, ?_, hB2, rfl⟩
      have : kb - n + H.next - H.next + n = kb := by omega
      change k'.get (kb - n + H.next - H.next + n) = some B
      rw [this]; exact hB1
    · rw [AH.get_skip, h1] at h2
      cases h2

/-- A memory of a few blocks. -/
def trL : List (Nat × AB) → Tr AB
  | [] => .leaf
  | (i, b) :: r => (trL r).put i (some b)
theorem trL_mem : ∀ {L : List (Nat × AB)} {i : Nat} {B : AB}, (trL L).get i = some B → (i, B) ∈ L
  | [], i, B, h => by simp [trL] at h
  | (j, b) :: r, i, B, h => by
    simp only [trL, Tr.get_put] at h
    split at h
    · rename_i e
      cases h
      subst e
      exact List.mem_cons_self ..
    · exact List.mem_cons_of_mem _ (trL_mem h)

/-- A call that was run wholly in a memory of a few blocks, which it leaves as they were, and that tells a value that names none: in whatever memory holds these blocks. -/
theorem parts_call (hC : CallOk P callH) {f n nx : Nat} {args : List AV} {v : AV} {L : List (Nat × AB)} (he : chk (callH f args ⟨n, trL L⟩) v nx L = true) (hn : NG ≤ n) (hx : n ≤ nx)
    (hL : (L.all fun x => Nat.blt x.1 n && x.2.bel n) = true) (hb : AV.bels n args = true) (hv : v.bel 0 = true) {H : AH} (hH : n ≤ H.next) (hsub : ∀ x ∈ L, H.get x.1 = some x.2) :
    CallR P f args H v (H.skip (nx - n)) := by
  obtain ⟨k, hk', hnx, hB⟩ := of_chk he
  subst hnx
  have hL' := List.all_eq_true.1 hL
  have hmem : ∀ i C, (AH.mk n (trL L)).get i = some C → (i, C) ∈ L := fun i C h => trL_mem h
  have idr : ∀ B : AB, B.bel n = true → B.ren id = B := fun B _ => by
    cases B with
    | cells x f e c => simp [AB.ren, AV.rens_id (ρ := id) (fun _ => rfl)]
    | ro e c => simp [AB.ren, AV.rens_id (ρ := id) (fun _ => rfl)]
    | map es cl =>
      have : ∀ es : List (AV × AV × Nat), renE id es = es := fun es => by
        induction es with
        | nil => rfl
        | cons x r ih => simp [renE, ih, AV.ren_id (ρ := id) (fun _ => rfl)]
      simp [AB.ren, this]
    | sit s p => rfl
    | mit m s x l => cases m <;> rfl
  have hr : AV.rens id args = args := AV.rens_id (ρ := id) (fun _ => rfl) args
  have key := CallW.frame (h := ⟨n, trL L⟩) (callR_of_ok hC hk') id (H := H) ⟨fun i j _ _ _ _ h => h, fun i hi => Nat.lt_of_lt_of_le hi hH, fun i B h => ?_⟩ hb (fun i hi => ⟨Nat.lt_of_lt_of_le hi hn, rfl⟩) (Q' := fun x K => x = v ∧ K = H.skip (k.next - n)) ?_
  · rw [hr] at key
    exact key
  · have hm := hmem i B h
    have := hL' _ hm
    simp only [Bool.and_eq_true, Nat.blt_eq] at this
    refine ⟨this.1, this.2, ?_⟩
    rw [idr B this.2]
    exact hsub _ hm
  · rintro x k' ⟨rfl, rfl⟩
    refine ⟨hx, H.skip (k'.next - n), ⟨rfl, fun i hi h => ?_, fun j _ _ => rfl, fun j B _ h1 h2 => ?_⟩, ren_flat hv, rfl⟩
    · obtain ⟨B, hB'⟩ := Option.isSome_iff_exists.1 h
      have hm := hmem i B hB'
      have hbel := hL' _ hm
      simp only [Bool.and_eq_true, Nat.blt_eq] at hbel
      have h1 := hsub _ hm
      have h2 := (hB _ hm).1
      simp only at h1 h2 hbel
      change H.get i = _
      rw [h1, h2]
      simp only [Option.map_some, Option.some.injEq]
      rw [ren_congr (ρ' := id) hbel.2 (fun j hj => by simp [reno, hj]), idr B hbel.2]
    · rw [AH.get_skip, h1] at h2
      cases h2

theorem callR_of_hook {f : Nat} {args : List AV} {h h' : AH} {v : AV} {k : List AV → AH → R} (hk : HookOk P f k) (e : k args h = some (v, h')) : CallR P f args h v h' := by
  obtain ⟨h1, h2⟩ := hk _ _ _ _ e
  exact ⟨h1, fun μ g w cargs hg s ha => (h2 μ g w cargs hg s ha).mono fun _ _ ⟨v', μ', a, b, c⟩ => ⟨v, h', v', μ', ⟨rfl, rfl⟩, a, b, c⟩⟩

/-- A law that tells true out of the empty memory does so in whatever memory bears the program's variables, and leaves what was there. -/
theorem callW_true {f : Nat} {args : List AV} (c : CallW P f args h0 fun v _ => v = .bool true) (w : World) (hw : NG ≤ w.heap.size) {cargs : List Value} (ha : VRs muG args cargs) :
    Calls P f ⟨cargs⟩ w fun e w' => e = .returned (.bool true) ∧ RowKit.Below w.heap.size w w' := by
  refine (c.2 muG (fun _ => none) w cargs glob_muG (st_empty w hw) ha).mono ?_
  rintro e w' ⟨v, h', v', μ', rfl, rfl, hv, hp⟩
  simp only [VR] at hv
  subst hv
  exact ⟨rfl, hp.below fun i B m h => by cases h⟩
end
end Go.AM
end
