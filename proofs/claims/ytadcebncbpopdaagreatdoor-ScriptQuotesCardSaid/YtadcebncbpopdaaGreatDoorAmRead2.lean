/-
  AmRead2: a part of the abstract machine that stands for runs of the program in the model: no statement of the seat is in it.
-/
import Derived.Test.YtadcebncbpopdaaGreatDoorAmRead
set_option linter.unusedSimpArgs false
noncomputable section
namespace Go.AM
section
variable {P : Program} {o : Oper} {aop : AOp} {tm : Tm} {ρ : Operand → Value} {μ : Mu} {v : AV} {g : G} {h : AH} {w : World}

theorem slCells (s : St μ g h w) {i off l c n : Nat} {ex : Bool} {es : Nat} {v' : Value} {cs : List AV} (hv : VR μ (.sl i off l c ex es) v') (hn : n = l * es ∨ (n ≤ l * es)) (hr : readCells h i off n = some cs) :
    ∃ m off' c', v' = .slice (some ⟨m.b, off', none⟩) l c' ∧ μ i = some m ∧ ∃ vs : List Value, vs.length = n ∧ VRs μ cs vs ∧ (∀ k v, vs[k]? = some v → w.cell? ⟨m.b, off' + k, none⟩ = some v) ∧ ∀ P, (loadCells ⟨m.b, off', none⟩ n).run P w = .ok ⟨vs⟩ w := by
  simp only [VR] at hv
  obtain ⟨m, off', c', hm, e, h1, h2, h3, h4, h5⟩ := hv
  obtain ⟨_, vs, hlen, hR, hcell, hload⟩ := readCells_ok s hr hm
  refine ⟨m, off', c', e, hm, vs, hlen, hR, ?_⟩
  rcases h1 with rfl | h0
  · exact ⟨hcell, hload⟩
  · have hl : l = 0 := by omega
    subst hl
    have hn0 : n = 0 := by omega
    subst hn0
    have : vs = [] := List.eq_nil_of_length_eq_zero hlen
    subst this
    exact ⟨by simp, fun P => by simp [loadCells, loadCellsFrom]⟩

theorem bytesOfA_ok : ∀ {cs : List AV} {bs : List UInt8} {vs : List Value}, bytesOfA cs = some bs → VRs μ cs vs → ∃ ns : List Int, vs = ns.map (.int .u8) ∧ bs = ns.map fun n => UInt8.ofNat n.toNat
  | [], bs, vs, h1, h2 => by
    simp only [bytesOfA, Option.some.injEq] at h1
    simp only [VRs] at h2
    subst h1 h2
    exact ⟨[], rfl, rfl⟩
  | c :: cs, bs, vs, h1, h2 => by
    unfold bytesOfA at h1
    split at h1
    · rename_i b bs' hb hbs
      simp only [Option.some.injEq] at h1
      subst h1
      simp only [VRs] at h2
      obtain ⟨v, r, rfl, hv, hr⟩ := h2
      obtain ⟨ns, rfl, rfl⟩ := bytesOfA_ok hbs hr
      unfold byteOfA at hb
      split at hb
      · rename_i n
        simp only [Option.some.injEq] at hb
        simp only [VR] at hv
        subst hb hv
        exact ⟨n :: ns, rfl, rfl⟩
      · cases hb
    · cases h1

theorem foldl_push (ns : List Int) : ∀ (acc : ByteArray), ns.foldl (fun r n => r.push (UInt8.ofNat n.toNat)) acc = ⟨(acc.data.toList ++ ns.map fun n => UInt8.ofNat n.toNat).toArray⟩ := by
  induction ns with
  | nil => intro acc; cases acc; simp
  | cons n ns ih =>
    intro acc
    rw [List.foldl_cons, ih]
    congr 1
    simp [ByteArray.push]

theorem extBytes_ok {b : Nat} : ∀ (ns : List Int) (off : Nat) (acc : ByteArray), (∀ k v, (ns.map (Value.int .u8))[k]? = some v → w.cell? ⟨b, off + k, none⟩ = some v) →
    (Extern.Bytes.loadBytes ⟨b, off, none⟩ ns.length acc).run P w = .ok (ns.foldl (fun r n => r.push (UInt8.ofNat n.toNat)) acc) w
  | [], off, acc, _ => by simp [Extern.Bytes.loadBytes]
  | n :: ns, off, acc, hk => by
    have h0 := hk 0 _ (by simp; rfl)
    simp only [Nat.add_zero] at h0
    simp only [List.length_cons, Extern.Bytes.loadBytes, Sem.run_bind, run_load, h0, Result.andThen_ok, add_addr]
    have := extBytes_ok ns (off + 1) (acc.push (UInt8.ofNat n.toNat)) fun k v hv => by
      have := hk (k + 1) v (by simpa using hv)
      rwa [show off + (k + 1) = off + 1 + k by omega] at this
    simpa using this

/-- bytes of a string or a slice, as the entries of the library read them -/
theorem text_ok (s : St μ g h w) {a : AV} {a' : Value} {bs : List UInt8} (hv : VR μ a a') (ht : textA h a = some bs) : (Extern.Bytes.bytesOf a').run P w = .ok ⟨bs.toArray⟩ w := by
  cases a <;> simp only [textA] at ht <;> (try (cases ht; done))
  · simp only [Option.some.injEq] at ht
    simp only [VR] at hv
    subst ht hv
    simp [Extern.Bytes.bytesOf]
  · split at ht
    · rename_i i off l c ex es hes
      subst hes
      simp only [Option.bind_eq_some_iff] at ht
      obtain ⟨cs, hcs, hbs⟩ := ht
      obtain ⟨m, off', c', rfl, hm, vs, hlen, hR, hcell, _⟩ := slCells s hv (.inl (by simp)) hcs
      obtain ⟨ns, rfl, rfl⟩ := bytesOfA_ok hbs hR
      have := extBytes_ok (P := P) ns off' .empty hcell
      simp only [List.length_map] at hlen
      rw [hlen] at this
      simp only [Extern.Bytes.bytesOf, this, foldl_push]
      simp
    · cases ht
  · simp only [Option.some.injEq] at ht
    simp only [VR] at hv
    subst ht hv
    simp [Extern.Bytes.bytesOf]
    rfl

theorem isU8_ok {t : TypeId} (h : isU8 P t = true) : P.underlying t = some (.int .u8) := by
  unfold isU8 at h
  split at h
  · assumption
  · cases h

theorem rd_conv {sT d : TypeId} {x : Operand} (ho : o.op = .convert sT d x) (hc : compOp P o = some aop) (hr : OR μ tm ρ o) (s : St μ g h w) (he : evRead tm h aop = some v) : ReadOk P o ρ μ v w := by
  simp only [compOp, compOpB, ho, bind, Option.bind_eq_some_iff, pure, Option.some.injEq] at hc
  obtain ⟨c, hcv, rfl⟩ := hc
  unfold compConv at hcv
  simp only [evRead, evReadB] at he
  split at he <;> (try (cases he; done)) <;> rename_i hx <;> have a1 := hr x (by simp [ho, Op.operands]) _ hx
  · split at hcv <;> (try split at hcv) <;> (try (cases hcv; done))
    rename_i e h1 h2 h3
    simp only [VR] at a1
    simp only [Option.some.injEq] at he
    subst he
    refine ⟨_, vr_str, ?_⟩
    simp [execOp, ho, a1, convert, r_und h1, r_und h2, r_und (isU8_ok h3), Conv.bytesToString]
    rfl
  · split at hcv <;> (try split at hcv) <;> (try (cases hcv; done))
    rename_i i off n cc ex es _ _ e h1 h2 h3
    simp only [Option.map_eq_some_iff, textA] at he
    obtain ⟨bs, hb, rfl⟩ := he
    split at hb
    · rename_i hes
      subst hes
      simp only [Option.bind_eq_some_iff] at hb
      obtain ⟨cs, hcs, hbs⟩ := hb
      obtain ⟨m, off', c', e1, hm, vs, hlen, hR, hcell, hload⟩ := slCells s a1 (.inl (by simp)) hcs
      obtain ⟨ns, rfl, rfl⟩ := bytesOfA_ok hbs hR
      refine ⟨_, vr_str, ?_⟩
      have := run_bytesToString (P := P) w ⟨m.b, off', none⟩ n c' ns (by rw [hload P])
      rw [foldl_push] at this
      simp only [execOp, ho, e1, Sem.run_bind, run_convert_bytes_string w sT d e _ _ _ h1 (isU8_ok h3) h2, this, Result.andThen_ok, Sem.run_pure]
      simp
    · cases hb
  · split at hcv <;> (try split at hcv) <;> (try (cases hcv; done))
    rename_i e h1 h2 h3
    simp only [VR] at a1
    simp only [Option.some.injEq] at he
    subst he
    refine ⟨_, vr_nilp, ?_⟩
    simp [execOp, ho, a1, convert, r_und h1, r_und h2, Conv.unsafePointer]
  · split at hcv <;> (try split at hcv) <;> (try (cases hcv; done))
    rename_i i off _ _ e h1 h2 h3
    split at he
    · rename_i ex fz el c hB
      split at he
      · rename_i hlt
        simp only [Option.some.injEq] at he
        subst he
        refine ⟨ρ x, a1, ?_⟩
        simp only [VR] at a1
        obtain ⟨m, hm, e1⟩ := a1
        obtain ⟨ob, hob, hBR⟩ := s.sim.blk i _ m (s.ext i _ hB) hm
        simp only [BR] at hBR
        obtain ⟨cs, fr, rfl, q1, q2, _⟩ := hBR
        have hsh : w.shape? m.b = some (el, cs.size) := by simp [World.shape?, hob]
        have hz : ∃ n, sizeQ P e = some n ∧ n ≠ 0 := by
          cases hq : sizeQ P e with
          | none => exact absurd (.inr hq) h3
          | some n => exact ⟨n, rfl, fun h => h3 (.inl (by rw [hq, h]))⟩
        obtain ⟨n, hn, hn0⟩ := hz
        have hnot : ¬ (cs.size ≤ m.base + off) := by omega
        simp [execOp, ho, e1, convert, r_und h1, r_und h2, Conv.unsafePointer, Conv.seenAt, viewAt, hsh, cellsIn, r_size hn, hn0, hnot]
      · cases he
    · cases he
  · split at hcv <;> (try split at hcv) <;> (try (cases hcv; done))
    rename_i h1 h2 _ n h3
    simp only [VR] at a1
    simp only [Option.some.injEq] at he
    subst he
    refine ⟨_, vr_nilp, ?_⟩
    simp [execOp, ho, a1, convert, r_und h1, r_und h2, Conv.unsafePointer]
  · split at hcv <;> (try split at hcv) <;> (try (cases hcv; done))
    rename_i t n i off _ _ _ h1 h2 _ n' h3
    cases hcv
    split at he
    · rename_i fz el c hB
      split at he
      · rename_i hcond
        obtain ⟨rfl, rfl, hlen⟩ := hcond
        simp only [Option.some.injEq] at he
        subst he
        refine ⟨ρ x, a1, ?_⟩
        simp only [VR] at a1
        obtain ⟨m, hm, e1⟩ := a1
        obtain ⟨ob, hob, hBR⟩ := s.sim.blk i _ m (s.ext i _ hB) hm
        simp only [BR] at hBR
        obtain ⟨cs, fr, rfl, q1, q2, q3, _⟩ := hBR
        obtain ⟨hb0, hsz⟩ := q3 trivial
        have hsh : w.shape? m.b = some (el, cs.size) := by simp [World.shape?, hob]
        have hcells : P.cellsOf el = n' + 1 := by
          unfold sizeQ at h3
          simp only [Program.cellsOf, h3, Option.getD_some]
        have hva : liesAt P P.depth el (cs.size / P.cellsOf el) 0 el 1 = true := by
          have hd : ∃ d, P.depth = d + 1 := ⟨2 * (P.types.size + Made.depth) + 1, rfl⟩
          obtain ⟨d, hd⟩ := hd
          have h1 : 1 ≤ cs.size / (n' + 1) := by
            rw [Nat.le_div_iff_mul_le (by omega)]
            omega
          rw [hd]
          simp only [liesAt, hd, rowAt, hcells]
          simp [sameLayout, h1]
        simp [execOp, ho, e1, convert, r_und h1, r_und h2, Conv.unsafePointer, Conv.seenAt, viewAt, hsh, hb0, variablesAt, hva, r_size h3]
      · cases he
    · cases he
end
end Go.AM
end
