/-
  AmPost: a part of the abstract machine that stands for runs of the program in the model: no statement of the seat is in it.
-/
import Derived.Test.YtadcebncbpopdaaGreatDoorAmAlloc
import Derived.Laws.IdiomCopy
set_option linter.unusedSimpArgs false
noncomputable section
namespace Go.AM

namespace Tr
variable {α : Type}
theorem getP_leaf : ∀ p : List D8, getP p (.leaf : Tr α) = none
  | [] => rfl
  | _ :: p => getP_leaf p
theorem get_leaf (n : Nat) : (Tr.leaf : Tr α).get n = none := getP_leaf _

theorem val_setVal (t : Tr α) (x : Option α) : (t.setVal x).val = x := by cases t <;> rfl
theorem child_setVal (t : Tr α) (x : Option α) (d : D8) : (t.setVal x).child d = t.child d := by cases t <;> cases d <;> rfl
theorem val_setChild (t : Tr α) (d : D8) (c : Tr α) : (t.setChild d c).val = t.val := by cases t <;> cases d <;> rfl
theorem child_setChild (t : Tr α) (d e : D8) (c : Tr α) : (t.setChild d c).child e = if e = d then c else t.child e := by
  cases t <;> cases d <;> cases e <;> rfl

theorem getP_putP (x : Option α) : ∀ (q p : List D8) (t : Tr α), getP p (putP q t x) = if p = q then x else getP p t
  | [], [], t => by simp only [if_pos]; exact val_setVal t x
  | [], d :: p, t => by
    rw [if_neg (by simp)]
    show getP p ((t.setVal x).child d) = getP p (t.child d)
    rw [child_setVal]
  | d :: q, [], t => by
    rw [if_neg (by simp)]
    show (t.setChild d (putP q (t.child d) x)).val = t.val
    rw [val_setChild]
  | d :: q, e :: p, t => by
    show getP p ((t.setChild d (putP q (t.child d) x)).child e) = if e :: p = d :: q then x else getP p (t.child e)
    rw [child_setChild]
    by_cases h : e = d
    · subst h
      simp only [if_true, List.cons.injEq, true_and]
      exact getP_putP x q p (t.child e)
    · rw [if_neg h, if_neg (by simp [h])]

theorem of_inj8 : ∀ a b : Fin 8, D8.of a.val = D8.of b.val → a = b := by decide
theorem of_inj (a b : Nat) (ha : a < 8) (hb : b < 8) (h : D8.of a = D8.of b) : a = b := by
  have := of_inj8 ⟨a, ha⟩ ⟨b, hb⟩ h
  simpa using this

theorem pathF_inj : ∀ (f f' n m : Nat), n < f → m < f' → pathF f n = pathF f' m → n = m
  | 0, _, n, m, h, _, _ => by omega
  | f + 1, 0, n, m, _, h, _ => by omega
  | f + 1, f' + 1, n, m, hn, hm, h => by
    cases n with
    | zero => cases m with
      | zero => rfl
      | succ m => cases h
    | succ n => cases m with
      | zero => cases h
      | succ m =>
        have h' : D8.of (n % 8) :: pathF f (n / 8) = D8.of (m % 8) :: pathF f' (m / 8) := h
        simp only [List.cons.injEq] at h'
        have h1 := of_inj _ _ (Nat.mod_lt n (by omega)) (Nat.mod_lt m (by omega)) h'.1
        have h2 := pathF_inj f f' (n / 8) (m / 8) (by omega) (by omega) h'.2
        omega

theorem path_inj {n m : Nat} (h : path n = path m) : n = m := pathF_inj _ _ _ _ (Nat.lt_succ_self _) (Nat.lt_succ_self _) h

theorem get_put (t : Tr α) (n : Nat) (x : Option α) (m : Nat) : (t.put n x).get m = if m = n then x else t.get m := by
  show getP (path m) (putP (path n) t x) = _
  rw [getP_putP]
  by_cases h : m = n
  · subst h; simp
  · rw [if_neg h, if_neg fun e => h (path_inj e)]; rfl
end Tr

namespace AH
theorem get_set (h : AH) (i : Nat) (b : AB) (j : Nat) : (h.set i b).get j = if j = i then some b else h.get j := Tr.get_put _ _ _ _
theorem get_del (h : AH) (i j : Nat) : (h.del i).get j = if j = i then none else h.get j := Tr.get_put _ _ _ _
theorem get_new (h : AH) (b : AB) (j : Nat) : (h.new b).get j = if j = h.next then some b else h.get j := Tr.get_put _ _ _ _
theorem next_set (h : AH) (i : Nat) (b : AB) : (h.set i b).next = h.next := rfl
theorem next_del (h : AH) (i : Nat) : (h.del i).next = h.next := rfl
theorem next_new (h : AH) (b : AB) : (h.new b).next = h.next + 1 := rfl
end AH

section
variable {μ : Mu} {g : G} {h : AH} {w w' : World}

/-- One live block is written in place. -/
theorem post_set (s : St μ g h w) {i : Nat} {B B' : AB} {m : MI} {o' : Obj} (hB : h.get i = some B) (hm : μ i = some m) (hnr : B.isRo = false) (hBR : BR μ m B' o')
    (hh : w'.heap[m.b]? = some o') (hoth : ∀ b, b ≠ m.b → w'.heap[b]? = w.heap[b]?) (hsz : w'.heap.size = w.heap.size) (hos : w'.os = w.os) (ht : w'.tape = w.tape) (hout : w'.output = w.output) :
    Post μ g h w (h.set i B') w' μ := by
  have hi : i < h.next := (s.sim.bnd i m hm).1
  have hu : ∀ j, upd g h (h.set i B') j = if j = i then some B' else g j := by
    intro j
    unfold upd
    rw [AH.get_set]
    by_cases e : j = i
    · simp [e]
    · simp only [if_neg e]
      cases hj : h.get j with
      | none => simp
      | some C => simp [s.ext j C hj]
  refine ⟨Mu.le.refl _, ⟨?_, ?_, ?_, ?_⟩, ?_, ?_, ?_, ?_, Nat.le_refl _, by omega, hos, ht, hout⟩
  · intro j C k hj hk
    rw [hu] at hj
    split at hj
    · rename_i e
      subst e
      simp only [Option.some.injEq] at hj
      subst hj
      rw [hm] at hk
      cases hk
      exact ⟨o', hh, hBR⟩
    · rename_i e
      obtain ⟨o, ho, hBo⟩ := s.sim.blk j C k hj hk
      have hne : k.b ≠ m.b := fun e2 => s.sim.inj j i C B k m e hj (s.ext i B hB) hk hm e2
      exact ⟨o, by rw [hoth _ hne]; exact ho, hBo⟩
  · intro a b C D k l hab hC hD hk hl
    rw [hu] at hC hD
    have hga : ∃ C', g a = some C' := by
      split at hC
      · rename_i e; subst e; exact ⟨B, s.ext _ _ hB⟩
      · exact ⟨C, hC⟩
    have hgb : ∃ D', g b = some D' := by
      split at hD
      · rename_i e; subst e; exact ⟨B, s.ext _ _ hB⟩
      · exact ⟨D, hD⟩
    obtain ⟨C', hC'⟩ := hga
    obtain ⟨D', hD'⟩ := hgb
    exact s.sim.inj a b C' D' k l hab hC' hD' hk hl
  · intro j k hk
    obtain ⟨h1, h2⟩ := s.sim.bnd j k hk
    exact ⟨h1, by omega⟩
  · intro j hj
    rw [hu, if_neg (by simp only [AH.next_set] at hj; omega)]
    exact s.sim.new j hj
  · intro b hb hn
    by_cases e : b = m.b
    · exact absurd e.symm (hn i B m (s.ext i B hB) hnr hm)
    · exact hoth b e
  · intro j C k hj hk hr
    rw [hu] at hj
    split at hj
    · rename_i e
      subst e
      rw [hm] at hk
      cases hk
      exact .inr ⟨j, B, m, s.ext j B hB, hnr, hm, rfl⟩
    · exact .inr ⟨j, C, k, hj, hr, hk, rfl⟩
  · intro j hj hn
    have e : j ≠ i := fun e => by subst e; rw [hm] at hn; cases hn
    exact ⟨by rw [AH.get_set, if_neg e], hn⟩
  · intro j C h0 h1
    rw [AH.get_set] at h1
    split at h1
    · rename_i e; subst e; rw [hB] at h0; cases h0
    · rw [h0] at h1; cases h1

def Mu.put (μ : Mu) (i : Nat) (m : MI) : Mu := fun j => if j = i then some m else μ j

theorem Mu.le_put {i : Nat} {m : MI} (hn : μ i = none) : μ.le (μ.put i m) := by
  intro j k hk
  unfold Mu.put
  split
  · rename_i e; subst e; rw [hn] at hk; cases hk
  · exact hk

/-- A new block, under the number id: fresh (id = h.next), or kept back in a drawn region. -/
theorem post_new (s : St μ g h w) {B : AB} {m : MI} {o' : Obj} (hmb : m.b = w.heap.size) (hh : w'.heap = w.heap.push o') (hBR : BR (μ.put h.next m) m B o')
    (hos : w'.os = w.os) (ht : w'.tape = w.tape) (hout : w'.output = w.output) : Post μ g h w (h.new B) w' (μ.put h.next m) := by
  have hfr : μ h.next = none := by
    cases e : μ h.next with
    | none => rfl
    | some k => have := (s.sim.bnd _ _ e).1; omega
  have hgn : g h.next = none := s.sim.new _ (Nat.le_refl _)
  have hhn : h.get h.next = none := by
    cases e : h.get h.next with
    | none => rfl
    | some k => have := s.ext _ _ e; rw [hgn] at this; cases this
  have hu : ∀ j, upd g h (h.new B) j = if j = h.next then some B else g j := by
    intro j
    unfold upd
    rw [AH.get_new]
    by_cases e : j = h.next
    · simp [e]
    · simp only [if_neg e]
      cases hj : h.get j with
      | none => simp
      | some C => simp [s.ext j C hj]
  have hle := Mu.le_put (m := m) hfr
  have hput : ∀ j k, (μ.put h.next m) j = some k → j ≠ h.next → μ j = some k := by
    intro j k hk hj
    simpa [Mu.put, hj] using hk
  refine ⟨hle, ⟨?_, ?_, ?_, ?_⟩, ?_, ?_, ?_, ?_, Nat.le_succ _, by simp [hh], hos, ht, hout⟩
  · intro j C k hj hk
    rw [hu] at hj
    split at hj
    · rename_i e
      subst e
      simp only [Option.some.injEq] at hj
      subst hj
      simp only [Mu.put, if_pos, Option.some.injEq] at hk
      subst hk
      exact ⟨o', by rw [hh, hmb]; simp, hBR⟩
    · rename_i e
      obtain ⟨o, ho, hBo⟩ := s.sim.blk j C k hj (hput j k hk e)
      have := (s.sim.bnd j k (hput j k hk e)).2
      exact ⟨o, by rw [hh, Array.getElem?_push, if_neg (by omega)]; exact ho, hBo.mono hle⟩
  · intro a b C D k l hab hC hD hk hl
    rw [hu] at hC hD
    by_cases ea : a = h.next
    · have eb : b ≠ h.next := fun e => hab (ea.trans e.symm)
      rw [if_neg eb] at hD
      subst ea
      simp only [Mu.put, if_pos, Option.some.injEq] at hk
      subst hk
      have := (s.sim.bnd b l (hput b l hl eb)).2
      omega
    · by_cases eb : b = h.next
      · rw [if_neg ea] at hC
        subst eb
        simp only [Mu.put, if_pos, Option.some.injEq] at hl
        subst hl
        have := (s.sim.bnd a k (hput a k hk ea)).2
        omega
      · rw [if_neg ea] at hC
        rw [if_neg eb] at hD
        exact s.sim.inj a b C D k l hab hC hD (hput a k hk ea) (hput b l hl eb)
  · intro j k hk
    by_cases e : j = h.next
    · subst e
      simp only [Mu.put, if_pos, Option.some.injEq] at hk
      subst hk
      exact ⟨Nat.lt_succ_self _, by rw [hh, hmb]; simp⟩
    · obtain ⟨h1, h2⟩ := s.sim.bnd j k (hput j k hk e)
      exact ⟨Nat.lt_succ_of_lt h1, by rw [hh]; simp; omega⟩
  · intro j hj
    have hj' : h.next + 1 ≤ j := hj
    rw [hu, if_neg (by omega)]
    exact s.sim.new j (by omega)
  · intro b hb _
    rw [hh, Array.getElem?_push, if_neg (by omega)]
  · intro j C k hj hk hr
    rw [hu] at hj
    split at hj
    · rename_i e
      subst e
      simp only [Mu.put, if_pos, Option.some.injEq] at hk
      subst hk
      exact .inl (by omega)
    · rename_i e
      exact .inr ⟨j, C, k, hj, hr, hput j k hk e, rfl⟩
  · intro j hj hn
    have e : j ≠ h.next := by omega
    exact ⟨by rw [AH.get_new, if_neg e], by simp [Mu.put, e, hn]⟩
  · intro j C h0 h1
    rw [AH.get_new] at h1
    split at h1
    · rename_i e; subst e; exact hgn
    · rw [h0] at h1; cases h1
end

/-! ### writing cells -/
section
variable {P : Program} {μ : Mu} {g : G} {h : AH} {w w' : World}

theorem setCells_heap (b : Nat) (e : TypeId) (fr : Nat × Nat) : ∀ (vs : List Value) (o : Nat) (w : World) (cs : Array Value), w.heap[b]? = some (.cells cs e fr) →
    (∃ cs', (w.setCells b o vs).heap[b]? = some (.cells cs' e fr) ∧ cs'.size = cs.size ∧ ∀ k, k < cs.size → cs'[k]? = if o ≤ k ∧ k < o + vs.length then vs[k - o]? else cs[k]?) ∧
    (∀ b', b' ≠ b → (w.setCells b o vs).heap[b']? = w.heap[b']?) ∧ (w.setCells b o vs).heap.size = w.heap.size ∧ (w.setCells b o vs).os = w.os ∧ (w.setCells b o vs).tape = w.tape ∧ (w.setCells b o vs).output = w.output
  | [], o, w, cs, hb => by
    refine ⟨⟨cs, hb, rfl, fun k hk => ?_⟩, fun _ _ => rfl, rfl, rfl, rfl, rfl⟩
    rw [if_neg (by simp only [List.length_nil]; omega)]
  | v :: vs, o, w, cs, hb => by
    have h1 : (w.setCell ⟨b, o, none⟩ v).heap[b]? = some (.cells (cs.setIfInBounds o v) e fr) := by
      simp [World.setCell, Array.getElem?_modify, hb]
    obtain ⟨⟨cs', h2, h3, h4⟩, h5, h6, h7, h8, h9⟩ := setCells_heap b e fr vs (o + 1) (w.setCell ⟨b, o, none⟩ v) _ h1
    simp only [World.setCells]
    refine ⟨⟨cs', h2, by simpa using h3, fun k hk => ?_⟩, fun b' hb' => ?_, ?_, h7, h8, h9⟩
    · rw [h4 k (by simpa using hk)]
      simp only [List.length_cons]
      by_cases e1 : k = o
      · subst e1
        rw [if_neg (by omega), if_pos (by omega)]
        simp [hk]
      · by_cases e2 : o + 1 ≤ k ∧ k < o + 1 + vs.length
        · rw [if_pos e2, if_pos (by omega)]
          have : k - o = (k - (o + 1)) + 1 := by omega
          rw [this, List.getElem?_cons_succ]
        · rw [if_neg e2, if_neg (by omega), Array.getElem?_setIfInBounds_ne (by omega)]
    · rw [h5 b' hb']
      simp only [World.setCell, Array.getElem?_modify]
      rw [if_neg (by omega)]
    · rw [h6]; simp [World.setCell]

theorem oneCell_of {μ : Mu} {a : AV} {v : Value} (h : VR μ a v) (k : a.one = true) : v.oneCell' = true := by
  have := VR.one h k
  cases v <;> first | rfl | (simp at this)

theorem paste_get {c c' vs : List AV} {o : Nat} (e : paste c o vs = some c') : c'.length = c.length ∧ o + vs.length ≤ c.length ∧ ∀ k, c'[k]? = if o ≤ k ∧ k < o + vs.length then vs[k - o]? else c[k]? := by
  unfold paste at e
  split at e
  · rename_i hl
    simp only [Option.some.injEq] at e
    subst e
    refine ⟨by simp; omega, hl, fun k => ?_⟩
    have l1 : (c.take o).length = o := by simp; omega
    by_cases h1 : k < o
    · rw [if_neg (by omega), List.append_assoc, List.getElem?_append_left (by omega), List.getElem?_take, if_pos h1]
    · by_cases h2 : k < o + vs.length
      · rw [if_pos (by omega), List.append_assoc, List.getElem?_append_right (by omega), l1, List.getElem?_append_left (by omega)]
      · rw [if_neg (by omega), List.append_assoc, List.getElem?_append_right (by omega), l1, List.getElem?_append_right (by omega), List.getElem?_drop]
        congr 1
        omega
  · cases e

/-- The cells of a live block are written. -/
theorem write_ok (s : St μ g h w) {i off : Nat} {vs : List AV} {h' : AH} {m : MI} {us : List Value} (hw : writeCells h i off vs = some h') (hm : μ i = some m) (hR : VRs μ vs us) :
    (∀ P : Program, (storeCells ⟨m.b, m.base + off, none⟩ us).run P w = .ok () (w.setCells m.b (m.base + off) us)) ∧ Post μ g h w h' (w.setCells m.b (m.base + off) us) μ := by
  unfold writeCells at hw
  split at hw
  · rename_i ex e c hB
    split at hw
    · rename_i c' hc'
      split at hw
      · rename_i hone
        simp only [Option.some.injEq] at hw
        subst hw
        obtain ⟨ob, hob, hBR⟩ := s.sim.blk i _ m (s.ext i _ hB) hm
        simp only [BR] at hBR
        obtain ⟨cs, fr, rfl, q1, q2, q3, q4, q5⟩ := hBR
        obtain ⟨p1, p2, p3⟩ := paste_get hc'
        have hlen := hR.length
        have hcell : ∀ k, k < cs.size → w.cell? ⟨m.b, k, none⟩ = cs[k]? := fun k hk => by simp [World.cell?, hob]
        have hfz : ∀ k, k < cs.size → w.frozen? ⟨m.b, k, none⟩ = false := by
          intro k hk
          simp only [World.frozen?, hob]
          rcases q4 (by simp) with h | h
          · have : ¬ (fr.1 ≤ k ∧ k < fr.2) := by omega
            simpa using this
          · have : ¬ (fr.1 ≤ k ∧ k < fr.2) := by omega
            simpa using this
        refine ⟨fun P => ?_, ?_⟩
        · have := run_storeCells_cells (P := P) m.b (m.base + off) us 0 w (fun j hj => by
              rw [hcell _ (by omega)]
              rw [Array.getElem?_eq_getElem (by omega)]; rfl)
            (fun j hj => hfz _ (by omega))
            (fun v hv => by
              obtain ⟨k, hk⟩ := List.getElem?_of_mem hv
              have hkl : k < vs.length := by rw [← hlen]; exact (List.getElem?_eq_some_iff.1 hk).1
              obtain ⟨v', h1, h2⟩ := hR.get k vs[k] (by simp [hkl])
              rw [hk] at h1
              cases h1
              exact oneCell_of h2 (List.all_eq_true.1 hone _ (List.getElem_mem hkl)))
          simpa using this
        · obtain ⟨⟨cs', r1, r2, r3⟩, r4, r5, r6, r7, r8⟩ := setCells_heap m.b e fr us (m.base + off) w cs hob
          refine post_set s hB hm rfl ?_ r1 r4 r5 r6 r7 r8
          simp only [BR]
          refine ⟨cs', fr, rfl, by omega, by omega, fun hx => by have := q3 hx; exact ⟨this.1, by omega⟩, fun _ => q4 (by simp), fun k a ha => ?_⟩
          rw [p3] at ha
          have hk : k < c'.length := by
            rw [p1]
            split at ha
            · rename_i hc; omega
            · exact (List.getElem?_eq_some_iff.1 ha).1
          rw [r3 _ (by omega)]
          split at ha
          · rename_i hc
            rw [if_pos (by omega)]
            obtain ⟨v, h1, h2⟩ := hR.get _ a ha
            refine ⟨v, ?_, h2⟩
            rw [← h1]; congr 1; omega
          · rename_i hc
            rw [if_neg (by omega)]
            exact q5 k a ha
      · cases hw
    · cases hw
  · cases hw
end
end Go.AM
end
