/-
  AmRel: a part of the abstract machine that stands for runs of the program in the model: no statement of the seat is in it.
-/
import Derived.Test.YtadcebncbpopdaaGreatDoorAmEval
import Derived.Orders
import Derived.Laws.Sem
noncomputable section
namespace Go.AM

/-! ## How abstract and model values, blocks and memories stand to one another -/

structure MI where
  b : Nat
  base : Nat
  size : Nat

abbrev Mu := Nat → Option MI
abbrev G := Nat → Option AB

def Mu.le (μ μ' : Mu) : Prop := ∀ i m, μ i = some m → μ' i = some m

theorem Mu.le.refl (μ : Mu) : μ.le μ := fun _ _ h => h
theorem Mu.le.trans {a b c : Mu} (h : a.le b) (k : b.le c) : a.le c := fun i m e => k i m (h i m e)

mutual
def VR (μ : Mu) : AV → Value → Prop
  | .bool b, v => v = .bool b
  | .int k n, v => v = .int k n
  | .str s, v => v = .string ⟨s.toArray⟩
  | .ptr i o, v => ∃ m, μ i = some m ∧ v = .pointer (some ⟨m.b, m.base + o, none⟩)
  | .nilp, v => v = .pointer none
  | .sl i o l c ex es, v => ∃ m off c', μ i = some m ∧ v = .slice (some ⟨m.b, off, none⟩) l c' ∧ (off = m.base + o ∨ c' = 0) ∧ l ≤ c ∧ c ≤ c' ∧
      (ex = true → c' = c) ∧ (c' ≠ 0 → off + c' * es ≤ m.size)
  | .nils, v => v = .slice none 0 0
  | .map i, v => ∃ m, μ i = some m ∧ v = .map (some m.b)
  | .nilm, v => v = .map none
  | .fn f a b, v => ∃ a' b', v = .func (.func f) ⟨a'⟩ ⟨b'⟩ ∧ VRs μ a a' ∧ VRs μ b b'
  | .nilf, v => v = .nilFunc
  | .ifc t x, v => ∃ y, v = .iface t y ∧ VR μ x y
  | .nili, v => v = .nilIface
  | .agg cs, v => ∃ vs, v = .agg ⟨vs⟩ ∧ VRs μ cs vs
  | .tup cs, v => ∃ vs, v = .tuple ⟨vs⟩ ∧ VRs μ cs vs
def VRs (μ : Mu) : List AV → List Value → Prop
  | [], vs => vs = []
  | a :: as, vs => ∃ v r, vs = v :: r ∧ VR μ a v ∧ VRs μ as r
end

mutual
theorem VR.mono {μ μ' : Mu} (h : μ.le μ') : ∀ (a : AV) (v : Value), VR μ a v → VR μ' a v
  | .bool _, _, k => by simpa [VR] using k
  | .int .., _, k => by simpa [VR] using k
  | .str _, _, k => by simpa [VR] using k
  | .ptr i o, v, k => by
    simp only [VR] at k ⊢
    obtain ⟨m, hm, e⟩ := k
    exact ⟨m, h _ _ hm, e⟩
  | .nilp, _, k => by simpa [VR] using k
  | .sl i o l c ex es, v, k => by
    simp only [VR] at k ⊢
    obtain ⟨m, off, c', hm, r⟩ := k
    exact ⟨m, off, c', h _ _ hm, r⟩
  | .nils, _, k => by simpa [VR] using k
  | .map i, v, k => by
    simp only [VR] at k ⊢
    obtain ⟨m, hm, e⟩ := k
    exact ⟨m, h _ _ hm, e⟩
  | .nilm, _, k => by simpa [VR] using k
  | .fn f a b, v, k => by
    simp only [VR] at k ⊢
    obtain ⟨a', b', e, ha, hb⟩ := k
    exact ⟨a', b', e, VRs.mono h _ _ ha, VRs.mono h _ _ hb⟩
  | .nilf, _, k => by simpa [VR] using k
  | .ifc t x, v, k => by
    simp only [VR] at k ⊢
    obtain ⟨y, e, hy⟩ := k
    exact ⟨y, e, VR.mono h _ _ hy⟩
  | .nili, _, k => by simpa [VR] using k
  | .agg cs, v, k => by
    simp only [VR] at k ⊢
    obtain ⟨y, e, hy⟩ := k
    exact ⟨y, e, VRs.mono h _ _ hy⟩
  | .tup cs, v, k => by
    simp only [VR] at k ⊢
    obtain ⟨y, e, hy⟩ := k
    exact ⟨y, e, VRs.mono h _ _ hy⟩
theorem VRs.mono {μ μ' : Mu} (h : μ.le μ') : ∀ (a : List AV) (v : List Value), VRs μ a v → VRs μ' a v
  | [], _, k => by simpa [VRs] using k
  | x :: xs, vs, k => by
    simp only [VRs] at k ⊢
    obtain ⟨v, r, e, hv, hr⟩ := k
    exact ⟨v, r, e, VR.mono h _ _ hv, VRs.mono h _ _ hr⟩
end

theorem VRs.length {μ : Mu} : ∀ {as : List AV} {vs : List Value}, VRs μ as vs → vs.length = as.length
  | [], vs, h => by simp only [VRs] at h; simp [h]
  | a :: as, vs, h => by
    simp only [VRs] at h
    obtain ⟨v, r, rfl, _, h⟩ := h
    simp [VRs.length h]

theorem VRs.get {μ : Mu} : ∀ {as : List AV} {vs : List Value}, VRs μ as vs → ∀ (k : Nat) (a : AV), as[k]? = some a → ∃ v, vs[k]? = some v ∧ VR μ a v
  | [], vs, h, k, a, e => by simp at e
  | x :: as, vs, h, k, a, e => by
    simp only [VRs] at h
    obtain ⟨v, r, rfl, hv, h⟩ := h
    cases k with
    | zero => simp at e; subst e; exact ⟨v, by simp, hv⟩
    | succ k => simp at e; simpa using VRs.get h k a e

theorem VRs.of_get {μ : Mu} : ∀ {as : List AV} {vs : List Value}, vs.length = as.length → (∀ (k : Nat) (a : AV), as[k]? = some a → ∃ v, vs[k]? = some v ∧ VR μ a v) → VRs μ as vs
  | [], vs, h, _ => by simp only [VRs]; simpa using h
  | x :: as, [], h, _ => by simp at h
  | x :: as, v :: vs, h, k => by
    simp only [VRs]
    refine ⟨v, vs, rfl, ?_, VRs.of_get (by simpa using h) fun j a e => by simpa using k (j + 1) a (by simpa using e)⟩
    obtain ⟨u, hu, hr⟩ := k 0 x (by simp)
    simp at hu
    subst hu
    exact hr

theorem VRs.append {μ : Mu} : ∀ {as : List AV} {vs : List Value} {bs : List AV} {ws : List Value}, VRs μ as vs → VRs μ bs ws → VRs μ (as ++ bs) (vs ++ ws)
  | [], vs, bs, ws, h, k => by simp only [VRs] at h; subst h; simpa using k
  | a :: as, vs, bs, ws, h, k => by
    simp only [VRs] at h
    obtain ⟨v, r, rfl, hv, h⟩ := h
    exact ⟨v, r ++ ws, rfl, hv, VRs.append h k⟩

theorem VRs.take {μ : Mu} {as : List AV} {vs : List Value} (h : VRs μ as vs) (n : Nat) : VRs μ (as.take n) (vs.take n) := by
  refine VRs.of_get (by simp [h.length]) fun k a e => ?_
  rw [List.getElem?_take] at e ⊢
  split at e
  · obtain ⟨v, hv, hr⟩ := h.get k a e
    exact ⟨v, by simp [*], hr⟩
  · simp at e

theorem VRs.drop {μ : Mu} {as : List AV} {vs : List Value} (h : VRs μ as vs) (n : Nat) : VRs μ (as.drop n) (vs.drop n) := by
  refine VRs.of_get (by simp [h.length]) fun k a e => ?_
  rw [List.getElem?_drop] at e ⊢
  exact h.get _ a e

theorem VR.cells {μ : Mu} {a : AV} {v : Value} (h : VR μ a v) : VRs μ a.cells v.cells.toList := by
  cases a <;> simp only [VR] at h <;> simp only [AV.cells]
  case agg cs => obtain ⟨vs, rfl, h⟩ := h; simpa [Value.cells] using h
  case ptr => obtain ⟨m, hm, rfl⟩ := h; simp [Value.cells, VRs, VR, hm]
  case sl => obtain ⟨m, off, c', hm, rfl, r⟩ := h; exact ⟨_, _, rfl, by simp only [VR]; exact ⟨m, off, c', hm, rfl, r⟩, rfl⟩
  case map => obtain ⟨m, hm, rfl⟩ := h; simp [Value.cells, VRs, VR, hm]
  case fn => obtain ⟨a', b', rfl, ha, hb⟩ := h; exact ⟨_, _, rfl, by simp only [VR]; exact ⟨_, _, rfl, ha, hb⟩, rfl⟩
  case ifc => obtain ⟨y, rfl, hy⟩ := h; exact ⟨_, _, rfl, by simp only [VR]; exact ⟨_, rfl, hy⟩, rfl⟩
  case tup => obtain ⟨y, rfl, hy⟩ := h; exact ⟨_, _, rfl, by simp only [VR]; exact ⟨_, rfl, hy⟩, rfl⟩
  all_goals (subst h; exact ⟨_, _, rfl, by simp only [VR], rfl⟩)

theorem VR.one {μ : Mu} {a : AV} {v : Value} (h : VR μ a v) (k : a.one = true) : (match v with | .agg _ | .tuple _ => false | _ => true) = true := by
  cases a <;> simp only [VR] at h <;> simp only [AV.one] at k
  case agg => cases k
  case tup => cases k
  case ptr => obtain ⟨m, hm, rfl⟩ := h; rfl
  case sl => obtain ⟨m, off, c', hm, rfl, r⟩ := h; rfl
  case map => obtain ⟨m, hm, rfl⟩ := h; rfl
  case fn => obtain ⟨a', b', rfl, ha, hb⟩ := h; rfl
  case ifc => obtain ⟨y, rfl, hy⟩ := h; rfl
  all_goals (subst h; rfl)

/-! ### blocks -/

def ER (μ : Mu) : List (AV × AV × Nat) → List MapEntry → Prop
  | [], es => es = []
  | (k, v, n) :: r, es => ∃ e s, es = e :: s ∧ VR μ k e.key ∧ VR μ v e.val ∧ e.born = n ∧ ER μ r s

theorem ER.mono {μ μ' : Mu} (h : μ.le μ') : ∀ (a : List (AV × AV × Nat)) (v : List MapEntry), ER μ a v → ER μ' a v
  | [], _, k => by simpa [ER] using k
  | (x, y, n) :: r, es, k => by
    simp only [ER] at k ⊢
    obtain ⟨e, s, he, h1, h2, h3, h4⟩ := k
    exact ⟨e, s, he, VR.mono h _ _ h1, VR.mono h _ _ h2, h3, ER.mono h _ _ h4⟩

def BR (μ : Mu) (m : MI) : AB → Obj → Prop
  | .cells ex fz e c, o => ∃ cs fr, o = .cells cs e fr ∧ cs.size = m.size ∧ m.base + c.length ≤ m.size ∧ (ex = true → m.base = 0 ∧ m.size = c.length) ∧
      (fz = false → fr.1 = fr.2 ∨ m.size ≤ fr.1) ∧ ∀ k a, c[k]? = some a → ∃ v, cs[m.base + k]? = some v ∧ VR μ a v
  | .ro e c, o => ∃ cs fr, o = .cells cs e fr ∧ cs.size = m.size ∧ m.base + c.length ≤ m.size ∧ ∀ k a, c[k]? = some a → ∃ v, cs[m.base + k]? = some v ∧ VR μ a v
  | .map es cl, o => ∃ es', o = .map ⟨es'⟩ cl ∧ ER μ es es'
  | .sit s pos, o => m.base = 0 ∧ o = .stringIter ⟨s.toArray⟩ pos
  | .mit i since seen last, o => m.base = 0 ∧ ∃ i', o = .mapIter i' since ⟨seen⟩ last ∧ (match i with
      | none => i' = none
      | some i => ∃ k, μ i = some k ∧ i' = some k.b)

theorem BR.mono {μ μ' : Mu} (h : μ.le μ') {m : MI} : ∀ {B : AB} {o : Obj}, BR μ m B o → BR μ' m B o
  | .cells .., o, k => by
    simp only [BR] at k ⊢
    obtain ⟨cs, fr, h1, h2, h3, h4, h5, h6⟩ := k
    exact ⟨cs, fr, h1, h2, h3, h4, h5, fun k a e => let ⟨v, e1, e2⟩ := h6 k a e; ⟨v, e1, VR.mono h _ _ e2⟩⟩
  | .ro .., o, k => by
    simp only [BR] at k ⊢
    obtain ⟨cs, fr, h1, h2, h3, h6⟩ := k
    exact ⟨cs, fr, h1, h2, h3, fun k a e => let ⟨v, e1, e2⟩ := h6 k a e; ⟨v, e1, VR.mono h _ _ e2⟩⟩
  | .map .., o, k => by
    simp only [BR] at k ⊢
    obtain ⟨es', h1, h2⟩ := k
    exact ⟨es', h1, ER.mono h _ _ h2⟩
  | .sit .., o, k => by simpa only [BR] using k
  | .mit i _ _ _, o, k => by
    simp only [BR] at k ⊢
    obtain ⟨h0, i', h1, h2⟩ := k
    refine ⟨h0, i', h1, ?_⟩
    cases i with
    | none => exact h2
    | some i => obtain ⟨k, hk, e⟩ := h2; exact ⟨k, h _ _ hk, e⟩

def AB.isRo : AB → Bool
  | .ro .. => true
  | _ => false

/-! ### memories -/

structure Sim (μ : Mu) (g : G) (nxt : Nat) (w : World) : Prop where
  blk : ∀ i B m, g i = some B → μ i = some m → ∃ o, w.heap[m.b]? = some o ∧ BR μ m B o
  inj : ∀ i j B C m k, i ≠ j → g i = some B → g j = some C → μ i = some m → μ j = some k → m.b ≠ k.b
  bnd : ∀ i m, μ i = some m → i < nxt ∧ m.b < w.heap.size
  new : ∀ i, nxt ≤ i → g i = none

/-- g holds all that h holds. -/
def Ext (h : AH) (g : G) : Prop := ∀ i B, h.get i = some B → g i = some B

structure St (μ : Mu) (g : G) (h : AH) (w : World) : Prop where
  ext : Ext h g
  sim : Sim μ g h.next w

def upd (g : G) (h h' : AH) : G := fun i => if (h.get i).isNone && (h'.get i).isNone then g i else h'.get i

theorem upd_self {g : G} {h : AH} (e : Ext h g) : upd g h h = g := by
  funext i
  unfold upd
  cases hi : h.get i with
  | none => simp
  | some B => simp [e i B hi]

theorem ext_upd (g : G) (h h' : AH) : Ext h' (upd g h h') := by
  intro i B hi
  simp [upd, hi]

structure Post (μ : Mu) (g : G) (h : AH) (w : World) (h' : AH) (w' : World) (μ' : Mu) : Prop where
  le : μ.le μ'
  sim : Sim μ' (upd g h h') h'.next w'
  frC : ∀ b, b < w.heap.size → (∀ i B m, g i = some B → B.isRo = false → μ i = some m → m.b ≠ b) → w'.heap[b]? = w.heap[b]?
  img : ∀ j B m, upd g h h' j = some B → μ' j = some m → B.isRo = false → w.heap.size ≤ m.b ∨ ∃ i C k, g i = some C ∧ C.isRo = false ∧ μ i = some k ∧ k.b = m.b
  frA : ∀ i, i < h.next → μ i = none → h'.get i = h.get i ∧ μ' i = none
  crt : ∀ i B, h.get i = none → h'.get i = some B → g i = none
  nx : h.next ≤ h'.next
  sz : w.heap.size ≤ w'.heap.size
  os : w'.os = w.os
  tape : w'.tape = w.tape
  out : w'.output = w.output

theorem Post.st {μ μ' : Mu} {g : G} {h h' : AH} {w w' : World} (p : Post μ g h w h' w' μ') : St μ' (upd g h h') h' w' := ⟨ext_upd _ _ _, p.sim⟩

theorem Post.refl {μ : Mu} {g : G} {h : AH} {w : World} (s : St μ g h w) : Post μ g h w h w μ where
  le := Mu.le.refl _
  sim := by rw [upd_self s.ext]; exact s.sim
  frC := fun _ _ _ => rfl
  img := fun j B m hj hm hr => .inr ⟨j, B, m, by rw [upd_self s.ext] at hj; exact hj, hr, hm, rfl⟩
  frA := fun i _ hn => ⟨rfl, hn⟩
  crt := fun i B h1 h2 => by rw [h1] at h2; cases h2
  nx := Nat.le_refl _
  sz := Nat.le_refl _
  os := rfl
  tape := rfl
  out := rfl

theorem upd_upd {g : G} {h h1 h2 : AH} (crt : ∀ i B, h.get i = none → h1.get i = some B → g i = none) : upd (upd g h h1) h1 h2 = upd g h h2 := by
  funext i
  unfold upd
  cases e0 : h.get i <;> cases e1 : h1.get i <;> cases e2 : h2.get i <;> simp
  exact (crt i _ e0 e1).symm

theorem Post.trans {μ μ1 μ2 : Mu} {g : G} {h h1 h2 : AH} {w w1 w2 : World} (p : Post μ g h w h1 w1 μ1) (q : Post μ1 (upd g h h1) h1 w1 h2 w2 μ2) :
    Post μ g h w h2 w2 μ2 where
  le := p.le.trans q.le
  sim := by have := q.sim; rwa [upd_upd p.crt] at this
  frC := fun b hb hn => by
    rw [q.frC b (Nat.lt_of_lt_of_le hb p.sz) fun i B m hi hr hm => ?_, p.frC b hb hn]
    rcases p.img i B m hi hm hr with h | ⟨j, C, k, hj, hrj, hk, e⟩
    · omega
    · exact e ▸ hn j C k hj hrj hk
  img := fun j B m hj hm hr => by
    rw [← upd_upd (h2 := h2) p.crt] at hj
    rcases q.img j B m hj hm hr with h | ⟨i, C, k, hi, hrc, hk, e⟩
    · exact .inl (Nat.le_trans p.sz h)
    · rcases p.img i C k hi hk hrc with h | ⟨i', C', k', a, b, c, d⟩
      · exact .inl (e ▸ h)
      · exact .inr ⟨i', C', k', a, b, c, d.trans e⟩
  frA := fun i hi hn => by
    obtain ⟨a, b⟩ := p.frA i hi hn
    obtain ⟨c, d⟩ := q.frA i (Nat.lt_of_lt_of_le hi p.nx) b
    exact ⟨c.trans a, d⟩
  crt := fun i B h0 h2' => by
    cases h1' : h1.get i with
    | some C => exact p.crt i C h0 h1'
    | none =>
      have := q.crt i B h1' h2'
      simpa [upd, h0, h1'] using this
  nx := Nat.le_trans p.nx q.nx
  sz := Nat.le_trans p.sz q.sz
  os := q.os.trans p.os
  tape := q.tape.trans p.tape
  out := q.out.trans p.out

end Go.AM
end
