/-
  AmEff4: a part of the abstract machine that stands for runs of the program in the model: no statement of the seat is in it.
-/
import Derived.Test.YtadcebncbpopdaaGreatDoorAmEff3
set_option linter.unusedSimpArgs false
noncomputable section
namespace Go.AM
section
variable {P : Program} {o : Oper} {aop : AOp} {tm : Tm} {ρ : Operand → Value} {μ : Mu} {v : AV} {g : G} {h h' : AH} {w w' : World} {callH : CallH}

theorem Sim.drew {nxt : Nat} (s : Sim μ g nxt w) (n : Nat) : Sim μ g nxt { w with drawn := n } := ⟨s.blk, s.inj, s.bnd, s.new⟩
theorem St.drew (s : St μ g h w) (n : Nat) : St μ g h { w with drawn := n } := ⟨s.ext, s.sim.drew n⟩

theorem Post.of_drew {μ' : Mu} {n : Nat} (p : Post μ g h { w with drawn := n } h' w' μ') : Post μ g h w h' w' μ' := ⟨p.le, p.sim, p.frC, p.img, p.frA, p.crt, p.nx, p.sz, p.os, p.tape, p.out⟩

/-- What an append comes to, memory aside. -/
structure AppRun (P : Program) (w : World) (e : TypeId) (size bytes n : Nat) (a' : Value) (us : List Value) (run : Result Value) : Prop where
  room : ∀ base l c, a' = .slice base l c → l + n ≤ c → (∀ b off, base = some ⟨b, off, none⟩ → ∀ w1, (storeCells ⟨b, off + l * size, none⟩ us).run P w = .ok () w1 → run = .ok (.slice base (l + n) c) w1) ∧ (base = none → run = .ok (.slice base (l + n) c) w)
  grow : ∀ base l c (old : List Value), a' = .slice base l c → c < l + n → (l + n) * (bytes + 1) ≤ 2 ^ 40 →
    (∀ d, (Builtin.firstCells size l a').run P { w with drawn := d } = .ok ⟨old⟩ { w with drawn := d }) →
    ∃ cap rest, l + n ≤ cap ∧ rest.length = (cap - (l + n)) * size ∧ run = .ok (.slice (some ⟨w.heap.size, 0, none⟩) (l + n) cap) { w with drawn := w.drawn + 1, heap := w.heap.push (.cells ⟨old ++ us ++ rest⟩ e) }

theorem appendA_ok (s : St μ g h w) {e : TypeId} {size bytes n : Nat} {a : AV} {a' : Value} {xs : List AV} {us : List Value} {run : Result Value} (hv : VR μ a a') (ha : appendA h e size bytes a n xs = some (v, h')) (hR : VRs μ xs us) (hlen : us.length = n * size) (hsz : 0 < size)
    (hrun : AppRun P w e size bytes n a' us run) : ∃ v' w' μ', run = .ok v' w' ∧ VR μ' v v' ∧ Post μ g h w h' w' μ' := by
  have hx0 := hR.length
  have fresh : ∀ (cap : Nat) (rest old : List Value) (olds : List AV) (l : Nat), VRs μ olds old → old.length = l * size → l + n ≤ cap → rest.length = (cap - (l + n)) * size → ∀ (g1 : G) (h1 : AH), St μ g1 h1 w →
      Post μ g1 h1 w (h1.new (.cells false false e (olds ++ xs))) { w with drawn := w.drawn + 1, heap := w.heap.push (.cells ⟨old ++ us ++ rest⟩ e) } (μ.put h1.next ⟨w.heap.size, 0, cap * size⟩) ∧
      VR (μ.put h1.next ⟨w.heap.size, 0, cap * size⟩) (.sl h1.next 0 (l + n) (l + n) false size) (.slice (some ⟨w.heap.size, 0, none⟩) (l + n) cap) := by
    intro cap rest old olds l hO hol hcap hrl g1 h1 s1
    have hfr : μ h1.next = none := by
      cases e : μ h1.next with
      | none => rfl
      | some k => have := (s1.sim.bnd _ _ e).1; omega
    have hle := Mu.le_put (m := ⟨w.heap.size, 0, cap * size⟩) hfr
    have hm : (μ.put h1.next ⟨w.heap.size, 0, cap * size⟩) h1.next = some ⟨w.heap.size, 0, cap * size⟩ := by simp [Mu.put]
    have htot : (old ++ us ++ rest).length = cap * size := by
      simp only [List.length_append, hol, hlen, hrl]
      rw [← Nat.add_mul, ← Nat.add_mul]
      congr 1
      omega
    constructor
    · refine (post_new (w' := { w with drawn := w.drawn + 1, heap := w.heap.push (.cells ⟨old ++ us ++ rest⟩ e) }) s1 rfl rfl ?_ rfl rfl rfl)
      simp only [BR]
      have hV := (hO.append hR).mono hle
      refine ⟨_, (0, 0), rfl, htot, ?_, (by simp), fun _ => .inl rfl, fun k b eb => ?_⟩
      · have h0 : olds.length = old.length := hO.length.symm
        have h1 : (olds ++ xs).length = olds.length + xs.length := List.length_append
        simp only [List.length_append] at htot
        omega
      · obtain ⟨v, h2, h3⟩ := hV.get k b eb
        refine ⟨v, ?_, h3⟩
        simp only [Nat.zero_add, List.getElem?_toArray]
        rw [List.getElem?_append_left (List.getElem?_eq_some_iff.1 h2).1]
        exact h2
    · simp only [VR]
      exact ⟨_, 0, cap, hm, rfl, .inl rfl, Nat.le_refl _, hcap, (by simp), fun _ => by simp⟩
  unfold appendA at ha
  split at ha
  · rename_i hn
    subst hn
    simp only [Nat.zero_mul] at hlen
    have hus : us = [] := List.eq_nil_of_length_eq_zero hlen
    subst hus
    split at ha <;> (try (cases ha; done)) <;> simp only [Option.some.injEq, Prod.mk.injEq] at ha
    · obtain ⟨rfl, rfl⟩ := ha
      simp only [VR] at hv
      obtain ⟨_, hr⟩ := hrun.room _ _ _ hv (by omega)
      refine ⟨_, w, μ, hr rfl, by simp [VR], Post.refl s⟩
    · obtain ⟨rfl, rfl⟩ := ha
      have hv2 := hv
      simp only [VR] at hv2
      obtain ⟨m, off, c', hm, e1, h1, h2, h3, _⟩ := hv2
      obtain ⟨hr, _⟩ := hrun.room _ _ _ e1 (by omega)
      exact ⟨_, w, μ, hr _ _ rfl w rfl, by rw [Nat.add_zero, ← e1]; exact hv, Post.refl s⟩
  · rename_i hn
    split at ha
    · split at ha
      · rename_i hbig
        simp only [Option.some.injEq, Prod.mk.injEq] at ha
        obtain ⟨rfl, rfl⟩ := ha
        simp only [VR] at hv
        obtain ⟨cap, rest, hcap, hrl, hr⟩ := hrun.grow none 0 0 [] hv (by omega) (by simpa using hbig) (fun d => by rw [hv]; simp [Builtin.firstCells])
        obtain ⟨hp, hV⟩ := fresh cap rest [] [] 0 rfl (by simp) hcap hrl g h s
        refine ⟨_, _, μ.put h.next ⟨w.heap.size, 0, cap * size⟩, hr, ?_, ?_⟩
        · simpa using hV
        · simpa using hp
      · cases ha
    · rename_i i off l c ex es
      split at ha
      · rename_i hbig
        obtain ⟨hbig, rfl⟩ := hbig
        have hv2 := hv
        simp only [VR] at hv2
        obtain ⟨m, off', c', hm, e1, h1, h2, h3, h4, h5⟩ := hv2
        split at ha
        · rename_i hroom
          simp only [Option.map_eq_some_iff, Prod.mk.injEq] at ha
          obtain ⟨h1', hw, rfl, rfl⟩ := ha
          have hoff : off' = m.base + off := by rcases h1 with h | h; exact h; omega
          subst hoff
          obtain ⟨hst, hp⟩ := write_ok s hw hm hR
          obtain ⟨hr, _⟩ := hrun.room _ _ _ e1 (by omega)
          refine ⟨_, _, μ, hr _ _ rfl _ (by rw [Nat.add_assoc]; exact hst P), ?_, hp⟩
          simp only [VR]
          exact ⟨m, _, c', hm, rfl, .inl rfl, hroom, h3, h4, h5⟩
        · rename_i hroom
          split at ha
          · rename_i old hold
            obtain ⟨m2, off2, c2, e2, hm2, vs, hvl, hvR, hvc, hvload⟩ := slCells s hv (.inl rfl) hold
            rw [hm] at hm2
            cases hm2
            rw [e1] at e2
            cases e2
            have hfc : ∀ d, (Builtin.firstCells es l a').run P { w with drawn := d } = .ok ⟨vs⟩ { w with drawn := d } := by
              intro d
              rw [e1]
              obtain ⟨m3, off3, c3, e3, hm3, vs3, hvl3, hvR3, hvc3, hvload3⟩ := slCells (s.drew d) hv (.inl rfl) hold
              rw [hm] at hm3
              cases hm3
              rw [e1] at e3
              cases e3
              have : vs3 = vs := by
                apply List.ext_getElem (by omega)
                intro k hk1 hk2
                have q1 := hvc k vs[k] (by simp [hk2])
                have q2 := hvc3 k vs3[k] (by simp [hk1])
                have q3 : ({ w with drawn := d } : World).cell? ⟨m.b, off' + k, none⟩ = w.cell? ⟨m.b, off' + k, none⟩ := rfl
                rw [q3, q1] at q2
                exact (Option.some.inj q2).symm
              subst this
              simp only [Builtin.firstCells]
              exact hvload3 P
            split at ha
            · rename_i hex
              subst hex
              simp only [Option.some.injEq, Prod.mk.injEq] at ha
              obtain ⟨rfl, rfl⟩ := ha
              have hcc : c' = c := h4 rfl
              obtain ⟨cap, rest, hcap, hrl, hr⟩ := hrun.grow _ l c' vs e1 (by omega) hbig hfc
              obtain ⟨hp, hV⟩ := fresh cap rest vs old l hvR hvl hcap hrl g h s
              exact ⟨_, _, _, hr, hV, hp⟩
            · split at ha
              · rename_i ex' e' cs hB
                split at ha
                · rename_i hee
                  obtain ⟨rfl, hone⟩ := hee
                  simp only [Option.some.injEq, Prod.mk.injEq] at ha
                  obtain ⟨rfl, rfl⟩ := ha
                  by_cases hroom' : l + n ≤ c'
                  · -- there is room: the new number takes the block over
                    have hoff : off' = m.base + off := by rcases h1 with h | h; exact h; omega
                    have hbound := h5 (by omega)
                    obtain ⟨ob, hob, hBR⟩ := s.sim.blk i _ m (s.ext i _ hB) hm
                    simp only [BR] at hBR
                    obtain ⟨cv, fr, rfl, q1, q2, q3, q4, q5⟩ := hBR
                    have hneed : (l + n) * es ≤ c' * es := Nat.mul_le_mul_right _ hroom'
                    have hln : (l + n) * es = l * es + n * es := Nat.add_mul _ _ _
                    have hcell : ∀ k, k < cv.size → w.cell? ⟨m.b, k, none⟩ = cv[k]? := fun k hk => by simp [World.cell?, hob]
                    have hfz : ∀ k, k < cv.size → w.frozen? ⟨m.b, k, none⟩ = false := by
                      intro k hk
                      simp only [World.frozen?, hob]
                      rcases q4 (by simp) with h | h
                      · have : ¬ (fr.1 ≤ k ∧ k < fr.2) := by omega
                        simpa using this
                      · have : ¬ (fr.1 ≤ k ∧ k < fr.2) := by omega
                        simpa using this
                    have hst := run_storeCells_cells (P := P) m.b (off' + l * es) us 0 w (fun j hj => by
                        rw [hcell _ (by omega), Array.getElem?_eq_getElem (by omega)]; rfl)
                      (fun j hj => hfz _ (by omega))
                      (fun v hv => by
                        obtain ⟨k, hk⟩ := List.getElem?_of_mem hv
                        have hkl : k < xs.length := by rw [← hx0]; exact (List.getElem?_eq_some_iff.1 hk).1
                        obtain ⟨v', h1, h2⟩ := hR.get k xs[k] (by simp [hkl])
                        rw [hk] at h1
                        cases h1
                        exact oneCell_of h2 (List.all_eq_true.1 hone _ (List.getElem_mem hkl)))
                    obtain ⟨⟨cs', r1, r2, r3⟩, r4, r5, r6, r7, r8⟩ := setCells_heap m.b e' fr us (off' + l * es) w cv hob
                    obtain ⟨hr, _⟩ := hrun.room _ _ _ e1 hroom'
                    have hfr : μ h.next = none := by
                      cases e : μ h.next with
                      | none => rfl
                      | some k => have := (s.sim.bnd _ _ e).1; omega
                    have hle := Mu.le_put (m := ⟨m.b, off', m.size⟩) hfr
                    have hmn : (μ.put h.next ⟨m.b, off', m.size⟩) h.next = some ⟨m.b, off', m.size⟩ := by simp [Mu.put]
                    have holdl : old.length = l * es := by rw [← hvR.length, hvl]
                    refine ⟨_, _, μ.put h.next ⟨m.b, off', m.size⟩, hr _ _ rfl _ (by simpa using hst), ?_, post_take s hB rfl hm rfl ?_ r1 r4 r5 r6 r7 r8⟩
                    · simp only [VR]
                      exact ⟨_, off', c', hmn, rfl, .inl rfl, Nat.le_refl _, hroom', (by simp), fun _ => hbound⟩
                    · simp only [BR]
                      have hxl : (old ++ xs).length = l * es + n * es := by rw [List.length_append, holdl, ← hx0, hlen]
                      refine ⟨cs', fr, rfl, by omega, by omega, (by simp), fun _ => q4 (by simp), fun k b eb => ?_⟩
                      have hk : k < l * es + n * es := by rw [← hxl]; exact (List.getElem?_eq_some_iff.1 eb).1
                      rw [r3 _ (by omega)]
                      by_cases hkl : k < l * es
                      · rw [if_neg (by omega)]
                        rw [List.getElem?_append_left (by omega)] at eb
                        obtain ⟨u, hu1, hu2⟩ := (hvR.mono hle).get k b eb
                        refine ⟨u, ?_, hu2⟩
                        rw [← hcell _ (by omega)]
                        exact hvc k u hu1
                      · rw [if_pos (by omega)]
                        rw [List.getElem?_append_right (by omega), holdl] at eb
                        obtain ⟨u, hu1, hu2⟩ := (hR.mono hle).get _ b eb
                        refine ⟨u, ?_, hu2⟩
                        rw [← hu1]
                        congr 1
                        omega
                  · obtain ⟨cap, rest, hcap, hrl, hr⟩ := hrun.grow _ l c' vs e1 (by omega) hbig hfc
                    have pd := post_del s hB hm
                    obtain ⟨hp, hV⟩ := fresh cap rest vs old l hvR hvl hcap hrl _ _ pd.st
                    exact ⟨_, _, _, hr, hV, pd.trans hp⟩
                · cases ha
              · cases ha
          · cases ha
      · cases ha
    · cases ha
end
end Go.AM
end
