/-
  AmFrame: a part of the abstract machine that stands for runs of the program in the model: no statement of the seat is in it.
-/
import Derived.Test.YtadcebncbpopdaaGreatDoorAmHoare
set_option linter.unusedSimpArgs false
noncomputable section
namespace Go.AM
/-! ## A run in a part of memory is a run in the whole, its blocks under other numbers -/

mutual
def AV.ren (ρ : Nat → Nat) : AV → AV
  | .ptr i o => .ptr (ρ i) o
  | .sl i o l c ex es => .sl (ρ i) o l c ex es
  | .map i => .map (ρ i)
  | .fn f a b => .fn f (AV.rens ρ a) (AV.rens ρ b)
  | .ifc t v => .ifc t (AV.ren ρ v)
  | .agg cs => .agg (AV.rens ρ cs)
  | .tup cs => .tup (AV.rens ρ cs)
  | .bool b => .bool b
  | .int k n => .int k n
  | .str s => .str s
  | .nilp => .nilp
  | .nils => .nils
  | .nilm => .nilm
  | .nilf => .nilf
  | .nili => .nili
def AV.rens (ρ : Nat → Nat) : List AV → List AV
  | [] => []
  | a :: as => AV.ren ρ a :: AV.rens ρ as
end

mutual
/-- All blocks that a value names lie below n. -/
def AV.bel (n : Nat) : AV → Bool
  | .ptr i _ => Nat.blt i n
  | .sl i _ _ _ _ _ => Nat.blt i n
  | .map i => Nat.blt i n
  | .fn _ a b => AV.bels n a && AV.bels n b
  | .ifc _ v => AV.bel n v
  | .agg cs => AV.bels n cs
  | .tup cs => AV.bels n cs
  | _ => true
def AV.bels (n : Nat) : List AV → Bool
  | [] => true
  | a :: as => AV.bel n a && AV.bels n as
end

def renE (ρ : Nat → Nat) : List (AV × AV × Nat) → List (AV × AV × Nat)
  | [] => []
  | (k, v, n) :: r => (k.ren ρ, v.ren ρ, n) :: renE ρ r
def belE (n : Nat) : List (AV × AV × Nat) → Bool
  | [] => true
  | (k, v, _) :: r => k.bel n && v.bel n && belE n r

def AB.ren (ρ : Nat → Nat) : AB → AB
  | .cells ex fz e c => .cells ex fz e (AV.rens ρ c)
  | .ro e c => .ro e (AV.rens ρ c)
  | .map es cl => .map (renE ρ es) cl
  | .sit s p => .sit s p
  | .mit (some i) s x l => .mit (some (ρ i)) s x l
  | .mit none s x l => .mit none s x l
def AB.bel (n : Nat) : AB → Bool
  | .cells _ _ _ c => AV.bels n c
  | .ro _ c => AV.bels n c
  | .map es _ => belE n es
  | .sit .. => true
  | .mit (some i) _ _ _ => Nat.blt i n
  | .mit none _ _ _ => true

theorem AB.ren_isRo (ρ : Nat → Nat) (B : AB) : (B.ren ρ).isRo = B.isRo := by
  cases B <;> (try rfl)
  rename_i m s x l
  cases m <;> rfl

theorem rens_length (ρ : Nat → Nat) : ∀ l, (AV.rens ρ l).length = l.length
  | [] => rfl
  | a :: as => by simp [AV.rens, rens_length ρ as]
theorem rens_get (ρ : Nat → Nat) : ∀ l (k : Nat), (AV.rens ρ l)[k]? = (l[k]?).map (AV.ren ρ)
  | [], k => by simp [AV.rens]
  | a :: as, 0 => by simp [AV.rens]
  | a :: as, k + 1 => by simpa [AV.rens] using rens_get ρ as k
theorem bels_get {n : Nat} : ∀ {l} (_ : AV.bels n l = true) {k : Nat} {a : AV}, l[k]? = some a → a.bel n = true
  | [], _, k, a, e => by simp at e
  | x :: xs, h, 0, a, e => by
    simp [AV.bels] at h e
    subst e; exact h.1
  | x :: xs, h, k + 1, a, e => by
    simp only [AV.bels, Bool.and_eq_true] at h
    exact bels_get h.2 (by simpa using e)

mutual
/-- Out of the whole into the part. -/
theorem VR.into {μ μ' : Mu} {ρ : Nat → Nat} {n : Nat} (h : ∀ i, i < n → ∀ m, μ (ρ i) = some m → μ' i = some m) : ∀ (a : AV) (v : Value), a.bel n = true → VR μ (a.ren ρ) v → VR μ' a v
  | .bool _, _, _, k => by simpa [VR, AV.ren] using k
  | .int .., _, _, k => by simpa [VR, AV.ren] using k
  | .str _, _, _, k => by simpa [VR, AV.ren] using k
  | .ptr i o, v, b, k => by
    simp only [VR, AV.ren, AV.bel, Nat.blt_eq] at k b ⊢
    obtain ⟨m, hm, e⟩ := k
    exact ⟨m, h _ b _ hm, e⟩
  | .nilp, _, _, k => by simpa [VR, AV.ren] using k
  | .sl i o l c ex es, v, b, k => by
    simp only [VR, AV.ren, AV.bel, Nat.blt_eq] at k b ⊢
    obtain ⟨m, off, c', hm, r⟩ := k
    exact ⟨m, off, c', h _ b _ hm, r⟩
  | .nils, _, _, k => by simpa [VR, AV.ren] using k
  | .map i, v, b, k => by
    simp only [VR, AV.ren, AV.bel, Nat.blt_eq] at k b ⊢
    obtain ⟨m, hm, e⟩ := k
    exact ⟨m, h _ b _ hm, e⟩
  | .nilm, _, _, k => by simpa [VR, AV.ren] using k
  | .fn f a b, v, bl, k => by
    simp only [VR, AV.ren, AV.bel, Bool.and_eq_true] at k bl ⊢
    obtain ⟨a', b', e, ha, hb⟩ := k
    exact ⟨a', b', e, VRs.into h _ _ bl.1 ha, VRs.into h _ _ bl.2 hb⟩
  | .nilf, _, _, k => by simpa [VR, AV.ren] using k
  | .ifc t x, v, b, k => by
    simp only [VR, AV.ren, AV.bel] at k b ⊢
    obtain ⟨y, e, hy⟩ := k
    exact ⟨y, e, VR.into h _ _ b hy⟩
  | .nili, _, _, k => by simpa [VR, AV.ren] using k
  | .agg cs, v, b, k => by
    simp only [VR, AV.ren, AV.bel] at k b ⊢
    obtain ⟨y, e, hy⟩ := k
    exact ⟨y, e, VRs.into h _ _ b hy⟩
  | .tup cs, v, b, k => by
    simp only [VR, AV.ren, AV.bel] at k b ⊢
    obtain ⟨y, e, hy⟩ := k
    exact ⟨y, e, VRs.into h _ _ b hy⟩
theorem VRs.into {μ μ' : Mu} {ρ : Nat → Nat} {n : Nat} (h : ∀ i, i < n → ∀ m, μ (ρ i) = some m → μ' i = some m) : ∀ (a : List AV) (v : List Value), AV.bels n a = true → VRs μ (AV.rens ρ a) v → VRs μ' a v
  | [], _, _, k => by simpa [VRs, AV.rens] using k
  | x :: xs, vs, b, k => by
    simp only [VRs, AV.rens, AV.bels, Bool.and_eq_true] at k b ⊢
    obtain ⟨v, r, e, hv, hr⟩ := k
    exact ⟨v, r, e, VR.into h _ _ b.1 hv, VRs.into h _ _ b.2 hr⟩
end

mutual
/-- Out of the part into the whole. -/
theorem VR.out {μ μ' : Mu} {ρ : Nat → Nat} (h : ∀ i m, μ i = some m → μ' (ρ i) = some m) : ∀ (a : AV) (v : Value), VR μ a v → VR μ' (a.ren ρ) v
  | .bool _, _, k => by simpa [VR, AV.ren] using k
  | .int .., _, k => by simpa [VR, AV.ren] using k
  | .str _, _, k => by simpa [VR, AV.ren] using k
  | .ptr i o, v, k => by
    simp only [VR, AV.ren] at k ⊢
    obtain ⟨m, hm, e⟩ := k
    exact ⟨m, h _ _ hm, e⟩
  | .nilp, _, k => by simpa [VR, AV.ren] using k
  | .sl i o l c ex es, v, k => by
    simp only [VR, AV.ren] at k ⊢
    obtain ⟨m, off, c', hm, r⟩ := k
    exact ⟨m, off, c', h _ _ hm, r⟩
  | .nils, _, k => by simpa [VR, AV.ren] using k
  | .map i, v, k => by
    simp only [VR, AV.ren] at k ⊢
    obtain ⟨m, hm, e⟩ := k
    exact ⟨m, h _ _ hm, e⟩
  | .nilm, _, k => by simpa [VR, AV.ren] using k
  | .fn f a b, v, k => by
    simp only [VR, AV.ren] at k ⊢
    obtain ⟨a', b', e, ha, hb⟩ := k
    exact ⟨a', b', e, VRs.out h _ _ ha, VRs.out h _ _ hb⟩
  | .nilf, _, k => by simpa [VR, AV.ren] using k
  | .ifc t x, v, k => by
    simp only [VR, AV.ren] at k ⊢
    obtain ⟨y, e, hy⟩ := k
    exact ⟨y, e, VR.out h _ _ hy⟩
  | .nili, _, k => by simpa [VR, AV.ren] using k
  | .agg cs, v, k => by
    simp only [VR, AV.ren] at k ⊢
    obtain ⟨y, e, hy⟩ := k
    exact ⟨y, e, VRs.out h _ _ hy⟩
  | .tup cs, v, k => by
    simp only [VR, AV.ren] at k ⊢
    obtain ⟨y, e, hy⟩ := k
    exact ⟨y, e, VRs.out h _ _ hy⟩
theorem VRs.out {μ μ' : Mu} {ρ : Nat → Nat} (h : ∀ i m, μ i = some m → μ' (ρ i) = some m) : ∀ (a : List AV) (v : List Value), VRs μ a v → VRs μ' (AV.rens ρ a) v
  | [], _, k => by simpa [VRs, AV.rens] using k
  | x :: xs, vs, k => by
    simp only [VRs, AV.rens] at k ⊢
    obtain ⟨v, r, e, hv, hr⟩ := k
    exact ⟨v, r, e, VR.out h _ _ hv, VRs.out h _ _ hr⟩
end

theorem ER.into {μ μ' : Mu} {ρ : Nat → Nat} {n : Nat} (h : ∀ i, i < n → ∀ m, μ (ρ i) = some m → μ' i = some m) : ∀ (a : List (AV × AV × Nat)) (v : List MapEntry), belE n a = true → ER μ (renE ρ a) v → ER μ' a v
  | [], _, _, k => by simpa [ER, renE] using k
  | (x, y, n) :: r, es, b, k => by
    simp only [ER, renE, belE, Bool.and_eq_true] at k b ⊢
    obtain ⟨e, s, he, h1, h2, h3, h4⟩ := k
    exact ⟨e, s, he, VR.into h _ _ b.1.1 h1, VR.into h _ _ b.1.2 h2, h3, ER.into h _ _ b.2 h4⟩
theorem ER.out {μ μ' : Mu} {ρ : Nat → Nat} (h : ∀ i m, μ i = some m → μ' (ρ i) = some m) : ∀ (a : List (AV × AV × Nat)) (v : List MapEntry), ER μ a v → ER μ' (renE ρ a) v
  | [], _, k => by simpa [ER, renE] using k
  | (x, y, n) :: r, es, k => by
    simp only [ER, renE] at k ⊢
    obtain ⟨e, s, he, h1, h2, h3, h4⟩ := k
    exact ⟨e, s, he, VR.out h _ _ h1, VR.out h _ _ h2, h3, ER.out h _ _ h4⟩

theorem BR.into {μ μ' : Mu} {ρ : Nat → Nat} {n : Nat} (h : ∀ i, i < n → ∀ m, μ (ρ i) = some m → μ' i = some m) {m : MI} : ∀ {B : AB} {o : Obj}, B.bel n = true → BR μ m (B.ren ρ) o → BR μ' m B o
  | .cells .., o, b, k => by
    simp only [BR, AB.ren, AB.bel, rens_length] at k b ⊢
    obtain ⟨cs, fr, h1, h2, h3, h4, h5, h6⟩ := k
    refine ⟨cs, fr, h1, h2, h3, h4, h5, fun k a e => ?_⟩
    obtain ⟨v, e1, e2⟩ := h6 k (a.ren ρ) (by rw [rens_get, e]; rfl)
    exact ⟨v, e1, VR.into h _ _ (bels_get b e) e2⟩
  | .ro .., o, b, k => by
    simp only [BR, AB.ren, AB.bel, rens_length] at k b ⊢
    obtain ⟨cs, fr, h1, h2, h3, h6⟩ := k
    refine ⟨cs, fr, h1, h2, h3, fun k a e => ?_⟩
    obtain ⟨v, e1, e2⟩ := h6 k (a.ren ρ) (by rw [rens_get, e]; rfl)
    exact ⟨v, e1, VR.into h _ _ (bels_get b e) e2⟩
  | .map .., o, b, k => by
    simp only [BR, AB.ren, AB.bel] at k b ⊢
    obtain ⟨es', h1, h2⟩ := k
    exact ⟨es', h1, ER.into h _ _ b h2⟩
  | .sit .., o, b, k => by simpa only [BR, AB.ren] using k
  | .mit none _ _ _, o, b, k => by simpa only [BR, AB.ren] using k
  | .mit (some i) _ _ _, o, b, k => by
    simp only [BR, AB.ren, AB.bel, Nat.blt_eq] at k b ⊢
    obtain ⟨h0, i', h1, k', hk, e⟩ := k
    exact ⟨h0, i', h1, k', h _ b _ hk, e⟩
theorem BR.out {μ μ' : Mu} {ρ : Nat → Nat} (h : ∀ i m, μ i = some m → μ' (ρ i) = some m) {m : MI} : ∀ {B : AB} {o : Obj}, BR μ m B o → BR μ' m (B.ren ρ) o
  | .cells .., o, k => by
    simp only [BR, AB.ren, rens_length] at k ⊢
    obtain ⟨cs, fr, h1, h2, h3, h4, h5, h6⟩ := k
    refine ⟨cs, fr, h1, h2, h3, h4, h5, fun k a e => ?_⟩
    rw [rens_get, Option.map_eq_some_iff] at e
    obtain ⟨a', ha, rfl⟩ := e
    obtain ⟨v, e1, e2⟩ := h6 k a' ha
    exact ⟨v, e1, VR.out h _ _ e2⟩
  | .ro .., o, k => by
    simp only [BR, AB.ren, rens_length] at k ⊢
    obtain ⟨cs, fr, h1, h2, h3, h6⟩ := k
    refine ⟨cs, fr, h1, h2, h3, fun k a e => ?_⟩
    rw [rens_get, Option.map_eq_some_iff] at e
    obtain ⟨a', ha, rfl⟩ := e
    obtain ⟨v, e1, e2⟩ := h6 k a' ha
    exact ⟨v, e1, VR.out h _ _ e2⟩
  | .map .., o, k => by
    simp only [BR, AB.ren] at k ⊢
    obtain ⟨es', h1, h2⟩ := k
    exact ⟨es', h1, ER.out h _ _ h2⟩
  | .sit .., o, k => by simpa only [BR, AB.ren] using k
  | .mit none _ _ _, o, k => by simpa only [BR, AB.ren] using k
  | .mit (some i) _ _ _, o, k => by
    simp only [BR, AB.ren] at k ⊢
    obtain ⟨h0, i', h1, k', hk, e⟩ := k
    exact ⟨h0, i', h1, k', h _ _ hk, e⟩

mutual
theorem AV.ren_congr {n : Nat} {ρ ρ' : Nat → Nat} (h : ∀ i, i < n → ρ i = ρ' i) : ∀ (a : AV), a.bel n = true → a.ren ρ = a.ren ρ'
  | .ptr i o, b => by simp only [AV.bel, Nat.blt_eq] at b; simp only [AV.ren, h i b]
  | .sl i .., b => by simp only [AV.bel, Nat.blt_eq] at b; simp only [AV.ren, h i b]
  | .map i, b => by simp only [AV.bel, Nat.blt_eq] at b; simp only [AV.ren, h i b]
  | .fn f x y, b => by simp only [AV.bel, Bool.and_eq_true] at b; simp only [AV.ren, AV.rens_congr h x b.1, AV.rens_congr h y b.2]
  | .ifc t v, b => by simp only [AV.bel] at b; simp only [AV.ren, AV.ren_congr h v b]
  | .agg cs, b => by simp only [AV.bel] at b; simp only [AV.ren, AV.rens_congr h cs b]
  | .tup cs, b => by simp only [AV.bel] at b; simp only [AV.ren, AV.rens_congr h cs b]
  | .bool _, _ => rfl
  | .int .., _ => rfl
  | .str _, _ => rfl
  | .nilp, _ => rfl
  | .nils, _ => rfl
  | .nilm, _ => rfl
  | .nilf, _ => rfl
  | .nili, _ => rfl
theorem AV.rens_congr {n : Nat} {ρ ρ' : Nat → Nat} (h : ∀ i, i < n → ρ i = ρ' i) : ∀ (a : List AV), AV.bels n a = true → AV.rens ρ a = AV.rens ρ' a
  | [], _ => rfl
  | x :: xs, b => by simp only [AV.bels, Bool.and_eq_true] at b; simp only [AV.rens, AV.ren_congr h x b.1, AV.rens_congr h xs b.2]
end
theorem renE_congr {n : Nat} {ρ ρ' : Nat → Nat} (h : ∀ i, i < n → ρ i = ρ' i) : ∀ (a : List (AV × AV × Nat)), belE n a = true → renE ρ a = renE ρ' a
  | [], _ => rfl
  | (x, y, k) :: xs, b => by simp only [belE, Bool.and_eq_true] at b; simp only [renE, AV.ren_congr h x b.1.1, AV.ren_congr h y b.1.2, renE_congr h xs b.2]
theorem ren_congr {n : Nat} {ρ ρ' : Nat → Nat} {B : AB} (hb : B.bel n = true) (h : ∀ i, i < n → ρ i = ρ' i) : B.ren ρ = B.ren ρ' := by
  cases B with
  | cells ex fz e c => simp only [AB.ren, AV.rens_congr h c hb]
  | ro e c => simp only [AB.ren, AV.rens_congr h c hb]
  | map es cl => simp only [AB.ren, renE_congr h es hb]
  | sit s p => rfl
  | mit i s x l =>
    cases i with
    | none => rfl
    | some i => simp only [AB.bel, Nat.blt_eq] at hb; simp only [AB.ren, h i hb]

/-- The numbers behind a call: those of the part by ρ, new ones behind the whole's. -/
def reno (ρ : Nat → Nat) (n N : Nat) : Nat → Nat := fun i => if i < n then ρ i else i - n + N

/-- What the whole holds behind a call in the part. -/
structure Framed (ρ : Nat → Nat) (h h' H H' : AH) : Prop where
  next : H'.next = H.next + (h'.next - h.next)
  old : ∀ i, i < h.next → (h.get i).isSome = true → H'.get (ρ i) = (h'.get i).map (AB.ren (reno ρ h.next H.next))
  same : ∀ j, j < H.next → (∀ i, i < h.next → (h.get i).isSome = true → ρ i ≠ j) → H'.get j = H.get j
  new : ∀ j B, H.next ≤ j → H.get j = none → H'.get j = some B → ∃ C, h'.get (j - H.next + h.next) = some C ∧ C.isRo = false ∧ B = C.ren (reno ρ h.next H.next)

/-- The part lies in the whole. -/
structure Lies (ρ : Nat → Nat) (h H : AH) : Prop where
  inj : ∀ i j, i < h.next → j < h.next → (h.get i).isSome = true → (h.get j).isSome = true → ρ i = ρ j → i = j
  lt : ∀ i, i < h.next → ρ i < H.next
  sub : ∀ i B, h.get i = some B → i < h.next ∧ B.bel h.next = true ∧ H.get (ρ i) = some (B.ren ρ)

section
variable {P : Program}
theorem CallW.frame {f : Nat} {args : List AV} {h : AH} {Q : AV → AH → Prop} (c : CallW P f args h Q) (ρ : Nat → Nat) {H : AH} (l : Lies ρ h H) (hb : AV.bels h.next args = true) (hng : ∀ i, i < NG → i < h.next ∧ ρ i = i)
    {Q' : AV → AH → Prop}
    (hQ : ∀ v h', Q v h' → h.next ≤ h'.next ∧ ∃ H', Framed ρ h h' H H' ∧ Q' (v.ren (reno ρ h.next H.next)) H') : CallW P f (AV.rens ρ args) H Q' := by
  refine ⟨c.1, fun μ g w cargs hg s ha => ?_⟩
  -- the part's view
  let μ0 : Mu := fun i => if i < h.next then μ (ρ i) else none
  have hμ0 : ∀ i, i < h.next → μ0 i = μ (ρ i) := fun i hi => by simp [μ0, hi]
  have into : ∀ i, i < h.next → ∀ m, μ (ρ i) = some m → μ0 i = some m := fun i hi m e => by rw [hμ0 i hi]; exact e
  have gsub : ∀ i B, h.get i = some B → g (ρ i) = some (B.ren ρ) := fun i B e => s.ext _ _ (l.sub i B e).2.2
  have st0 : St μ0 (fun i => h.get i) h w := by
    refine ⟨fun i B e => e, ⟨fun i B m hB hm => ?_, fun i j B C m k hne hi hj hm hk => ?_, fun i m hm => ?_, fun i hi => ?_⟩⟩
    · obtain ⟨h1, h2, h3⟩ := l.sub i B hB
      rw [hμ0 i h1] at hm
      obtain ⟨o, ho, hBR⟩ := s.sim.blk _ _ m (s.ext _ _ h3) hm
      exact ⟨o, ho, BR.into into h2 hBR⟩
    · have h1 := (l.sub i B hi).1
      have h2 := (l.sub j C hj).1
      rw [hμ0 i h1] at hm
      rw [hμ0 j h2] at hk
      exact s.sim.inj _ _ _ _ m k (fun e => hne (l.inj i j h1 h2 (by simp [hi]) (by simp [hj]) e)) (gsub _ _ hi) (gsub _ _ hj) hm hk
    · by_cases hi : i < h.next
      · rw [hμ0 i hi] at hm
        exact ⟨hi, (s.sim.bnd _ _ hm).2⟩
      · simp [μ0, hi] at hm
    · cases e : h.get i with
      | none => rfl
      | some B => have := (l.sub i B e).1; omega
  have ha0 := VRs.into into args cargs hb ha
  have hg0 : GlobOk μ0 := fun i hi => by
    have h1 := hng i (by simpa using hi)
    obtain ⟨n, e⟩ := hg i hi
    exact ⟨n, by rw [hμ0 i h1.1, h1.2]; exact e⟩
  refine (c.2 μ0 _ w cargs hg0 st0 ha0).mono ?_
  rintro e w' ⟨v, h', v', μ1, q, rfl, hv, hp⟩
  obtain ⟨hnx, H', fr, q'⟩ := hQ v h' q
  let μ2 : Mu := fun j => if j < H.next then μ j else μ1 (j - H.next + h.next)
  have hr1 : ∀ i, i < h.next → reno ρ h.next H.next i = ρ i := fun i hi => by simp [reno, hi]
  have hr2 : ∀ i, h.next ≤ i → reno ρ h.next H.next i = i - h.next + H.next := fun i hi => by simp [reno, Nat.not_lt.2 hi]
  have old1 : ∀ i, i < h.next → μ1 i = μ (ρ i) := fun i hi => by
    cases e : μ0 i with
    | some m => rw [hp.le _ _ e, ← hμ0 i hi, e]
    | none => rw [(hp.frA i hi e).2, ← hμ0 i hi, e]
  have out : ∀ i m, μ1 i = some m → μ2 (reno ρ h.next H.next i) = some m := fun i m e => by
    by_cases hi : i < h.next
    · rw [hr1 i hi]
      have := l.lt i hi
      simp only [μ2, this, if_true]
      rw [← old1 i hi]; exact e
    · rw [hr2 i (Nat.not_lt.1 hi)]
      have h1 : ¬ (i - h.next + H.next < H.next) := by omega
      have h2 : i - h.next + H.next - H.next + h.next = i := by omega
      simp only [μ2, h1, if_false, h2]; exact e
  have up0 : ∀ i, upd (fun i => h.get i) h h' i = h'.get i := fun i => by
    unfold upd
    cases e : h.get i <;> cases e' : h'.get i <;> simp [e]
  -- which block of the part a block of the whole is
  have cls : ∀ j B m, upd g H H' j = some B → μ2 j = some m →
      (∃ i C, reno ρ h.next H.next i = j ∧ h'.get i = some C ∧ μ1 i = some m ∧ B = C.ren (reno ρ h.next H.next) ∧ (h.next ≤ i → C.isRo = false) ∧ (i < h.next → (h.get i).isSome = true)) ∨
      (j < H.next ∧ g j = some B ∧ μ j = some m ∧ ∀ i, i < h.next → (h.get i).isSome = true → ρ i ≠ j) := by
    intro j B m hj hm
    by_cases hjn : j < H.next
    · have hm' : μ j = some m := by simpa [μ2, hjn] using hm
      by_cases hi : ∃ i, i < h.next ∧ (h.get i).isSome = true ∧ ρ i = j
      · obtain ⟨i, h1, h2, rfl⟩ := hi
        have ho := fr.old i h1 h2
        obtain ⟨B0, hB0⟩ := Option.isSome_iff_exists.1 h2
        have hH := (l.sub i B0 hB0).2.2
        cases e : h'.get i with
        | none =>
          rw [e] at ho
          simp only [Option.map_none] at ho
          simp only [upd, hH, ho, Option.isNone_some, Bool.false_and, Bool.false_eq_true, if_false] at hj
          cases hj
        | some C =>
          rw [e] at ho
          simp only [Option.map_some] at ho
          simp only [upd, hH, ho, Option.isNone_some, Bool.false_and, Bool.false_eq_true, if_false, Option.some.injEq] at hj
          exact .inl ⟨i, C, hr1 i h1, e, by rw [old1 i h1]; exact hm', hj.symm, fun hh => by omega, fun _ => h2⟩
      · have hi' : ∀ i, i < h.next → (h.get i).isSome = true → ρ i ≠ j := fun i h1 h2 h3 => hi ⟨i, h1, h2, h3⟩
        have hs := fr.same j hjn hi'
        refine .inr ⟨hjn, ?_, hm', hi'⟩
        cases e : H.get j with
        | none => simpa [upd, hs, e] using hj
        | some C =>
          have : C = B := by simpa [upd, hs, e] using hj
          subst this
          exact s.ext _ _ e
    · have hge : H.next ≤ j := Nat.not_lt.1 hjn
      have hHn : H.get j = none := by
        cases e : H.get j with
        | none => rfl
        | some C =>
          have := s.sim.new j hge
          rw [s.ext _ _ e] at this; cases this
      cases e : H'.get j with
      | none =>
        simp only [upd, hHn, e, Option.isNone_none, Bool.true_and, if_true] at hj
        rw [s.sim.new j hge] at hj; cases hj
      | some B' =>
        have : B' = B := by simpa [upd, hHn, e] using hj
        subst this
        obtain ⟨C, hC, hro, hB⟩ := fr.new j B' hge hHn e
        refine .inl ⟨j - H.next + h.next, C, ?_, hC, by simpa [μ2, hjn] using hm, hB, fun _ => hro, fun hh => by omega⟩
        rw [hr2 _ (by omega)]; omega
  refine ⟨_, H', v', μ2, q', rfl, VR.out out v v' hv, ?_⟩
  refine ⟨fun i m hm => ?_, ⟨fun j B m hj hm => ?_, fun i j B C m k hne hi hj hm hk => ?_, fun j m hm => ?_, fun j hj => ?_⟩, fun b hb hn => ?_, fun j B m hj hm hr => ?_, fun j hj hn => ?_, fun j B h1 h2 => ?_, ?_, hp.sz, hp.os, hp.tape, hp.out⟩
  · have := (s.sim.bnd i m hm).1
    simp [μ2, this, hm]
  · rcases cls j B m hj hm with ⟨i, C, rfl, hC, hμ, rfl, _, _⟩ | ⟨hjn, hgj, hμ, hjj⟩
    · obtain ⟨o, ho, hBR⟩ := hp.sim.blk i C m (by rw [up0]; exact hC) hμ
      exact ⟨o, ho, BR.out out hBR⟩
    · obtain ⟨o, ho, hBR⟩ := s.sim.blk j B m hgj hμ
      have hb := (s.sim.bnd j m hμ).2
      refine ⟨o, ?_, BR.mono (fun i m hm => ?_) hBR⟩
      · rw [hp.frC m.b hb fun i C k hi _ hk => ?_, ho]
        obtain ⟨h1, h2, h3⟩ := l.sub i C hi
        rw [hμ0 i h1] at hk
        exact s.sim.inj _ _ _ _ k m (hjj i h1 (by simp [hi])) (s.ext _ _ h3) hgj hk hμ
      · have := (s.sim.bnd i m hm).1
        simp [μ2, this, hm]
  · rcases cls i B m hi hm with ⟨i', B', rfl, hB, hμ, rfl, hroB, hsB⟩ | ⟨hin, hgi, hμ, hii⟩
    · rcases cls j C k hj hk with ⟨j', C', rfl, hC, hμ2, rfl, _, _⟩ | ⟨hjn, hgj, hμ2, hjj⟩
      · exact hp.sim.inj i' j' B' C' m k (fun e => hne (by rw [e])) (by rw [up0]; exact hB) (by rw [up0]; exact hC) hμ hμ2
      · by_cases hi' : i' < h.next
        · rw [old1 i' hi'] at hμ
          obtain ⟨B0, hB0⟩ := Option.isSome_iff_exists.1 (hsB hi')
          exact s.sim.inj _ _ _ _ m k (hjj i' hi' (hsB hi')) (gsub _ _ hB0) hgj hμ hμ2
        · rcases hp.img i' B' m (by rw [up0]; exact hB) hμ (hroB (Nat.not_lt.1 hi')) with hge | ⟨i2, C2, k2, a1, a2, a3, a4⟩
          · have := (s.sim.bnd j k hμ2).2
            omega
          · obtain ⟨b1, b2, b3⟩ := l.sub i2 C2 a1
            rw [hμ0 i2 b1] at a3
            rw [← a4]
            exact s.sim.inj _ _ _ _ k2 k (hjj i2 b1 (by rw [a1]; rfl)) (s.ext _ _ b3) hgj a3 hμ2
    · rcases cls j C k hj hk with ⟨j', C', rfl, hC, hμ2, rfl, hroC, hsC⟩ | ⟨hjn, hgj, hμ2, hjj⟩
      · by_cases hj' : j' < h.next
        · rw [old1 j' hj'] at hμ2
          obtain ⟨B0, hB0⟩ := Option.isSome_iff_exists.1 (hsC hj')
          exact s.sim.inj _ _ _ _ m k (fun e => hii j' hj' (hsC hj') e.symm) hgi (gsub _ _ hB0) hμ hμ2
        · rcases hp.img j' C' k (by rw [up0]; exact hC) hμ2 (hroC (Nat.not_lt.1 hj')) with hge | ⟨i2, C2, k2, a1, a2, a3, a4⟩
          · have := (s.sim.bnd i m hμ).2
            omega
          · obtain ⟨b1, b2, b3⟩ := l.sub i2 C2 a1
            rw [hμ0 i2 b1] at a3
            rw [← a4]
            exact s.sim.inj _ _ _ _ m k2 (fun e => hii i2 b1 (by rw [a1]; rfl) e.symm) hgi (s.ext _ _ b3) hμ a3
      · exact s.sim.inj i j B C m k hne hgi hgj hμ hμ2
  · by_cases hjn : j < H.next
    · have hm' : μ j = some m := by simpa [μ2, hjn] using hm
      exact ⟨by rw [fr.next]; omega, Nat.lt_of_lt_of_le (s.sim.bnd j m hm').2 hp.sz⟩
    · have hm' : μ1 (j - H.next + h.next) = some m := by simpa [μ2, hjn] using hm
      obtain ⟨h1, h2⟩ := hp.sim.bnd _ _ hm'
      exact ⟨by rw [fr.next]; omega, h2⟩
  · have hge : H.next ≤ j := by rw [fr.next] at hj; omega
    have hgn := s.sim.new j hge
    have hHn : H.get j = none := by
      cases e : H.get j with
      | none => rfl
      | some C => rw [s.ext _ _ e] at hgn; cases hgn
    cases e : H'.get j with
    | none => simpa [upd, hHn, e] using hgn
    | some B =>
      obtain ⟨C, hC, _, _⟩ := fr.new j B hge hHn e
      have := hp.sim.new (j - H.next + h.next) (by rw [fr.next] at hj; omega)
      rw [up0, hC] at this; cases this
  · refine hp.frC b hb fun i C m hi hr hm => ?_
    obtain ⟨h1, h2, h3⟩ := l.sub i C hi
    rw [hμ0 i h1] at hm
    exact hn (ρ i) _ m (s.ext _ _ h3) (by rw [AB.ren_isRo]; exact hr) hm
  · rcases cls j B m hj hm with ⟨i, C, rfl, hC, hμ, rfl, _, _⟩ | ⟨hjn, hgj, hμ, hi⟩
    · rw [AB.ren_isRo] at hr
      rcases hp.img i C m (by rw [up0]; exact hC) hμ hr with hge | ⟨i2, C2, k2, a1, a2, a3, a4⟩
      · exact .inl hge
      · obtain ⟨b1, b2, b3⟩ := l.sub i2 C2 a1
        rw [hμ0 i2 b1] at a3
        exact .inr ⟨ρ i2, _, k2, s.ext _ _ b3, by rw [AB.ren_isRo]; exact a2, a3, a4⟩
    · exact .inr ⟨j, B, m, hgj, hr, hμ, rfl⟩
  · have hμ2 : μ2 j = none := by simp [μ2, hj, hn]
    refine ⟨?_, hμ2⟩
    by_cases hi : ∃ i, i < h.next ∧ (h.get i).isSome = true ∧ ρ i = j
    · obtain ⟨i, h1, h2, rfl⟩ := hi
      obtain ⟨B0, hB0⟩ := Option.isSome_iff_exists.1 h2
      obtain ⟨_, hbel, hH⟩ := l.sub i B0 hB0
      have hs : h'.get i = h.get i := (hp.frA i h1 (by rw [hμ0 i h1]; exact hn)).1
      rw [fr.old i h1 h2, hs, hB0, hH]
      simp only [Option.map_some, Option.some.injEq]
      exact ren_congr hbel fun i hi => hr1 i hi
    · exact fr.same j hj fun i h1 h2 h3 => hi ⟨i, h1, h2, h3⟩
  · by_cases hjn : j < H.next
    · by_cases hi : ∃ i, i < h.next ∧ (h.get i).isSome = true ∧ ρ i = j
      · obtain ⟨i, a1, a2, rfl⟩ := hi
        obtain ⟨B0, hB0⟩ := Option.isSome_iff_exists.1 a2
        rw [(l.sub i B0 hB0).2.2] at h1; cases h1
      · rw [fr.same j hjn fun i a1 a2 a3 => hi ⟨i, a1, a2, a3⟩, h1] at h2; cases h2
    · exact s.sim.new j (Nat.not_lt.1 hjn)
  · rw [fr.next]; omega
end
end Go.AM
end
