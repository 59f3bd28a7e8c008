/-
  What ScriptQuotes calls besides: closed calls by the kernel; what lies in the variable of an error; the law in whatever world, for whatever text.
-/
import Derived.Test.YtadcebncbpopdaaGreatDoorAwake
import Derived.Test.YtadcebncbpopdaaGreatDoorWorld
import Derived.Test.YtadcebncbpopdaaGreatDoorQuote3
set_option maxRecDepth 1000000
set_option linter.unusedSimpArgs false
set_option linter.unusedVariables false
namespace Go.AM
open Go.Proofs Go.RowKit
noncomputable abbrev run5 : CallH := acall 5000 hooksA (look tab) 100
theorem ok5 : CallOk Tryz.prog run5 := acall_ok mixed hooksA_ok funs_ok 100
def dgn (n : Nat) : List UInt8 := [UInt8.ofNat (48 + n / 64), UInt8.ofNat (48 + n / 8 % 8), UInt8.ofNat (48 + n % 8)]
theorem ca_all : ((List.range 256).all fun n => chk (run5 51 [.str (dgn n), .str [95, 43, 45]] ⟨8, .leaf⟩) (.bool false) 9 []) = true := by kernel_rfl
theorem flat5 {f nx : Nat} {args : List AV} {v : AV} (he : chk (run5 f args ⟨8, .leaf⟩) v nx [] = true) (hx : 8 ≤ nx) (hb : AV.bels 0 args = true) (hv : v.bel 0 = true) (H : AH) (hH : NG ≤ H.next) : CallR Tryz.prog f args H v (H.skip (nx - 8)) := by
  have h8 : NG = 8 := rfl
  have := flat_call ok5 he (by rw [h8]; exact Nat.le_refl _) hx (AV.bels_mono (Nat.zero_le _) _ hb) hv (ρ := id) (H := H) (fun i hi => by rw [h8] at hH; exact Nat.lt_of_lt_of_le hi hH) (fun _ _ => rfl)
  rwa [rens_flat hb] at this
/-- Three octal digits that come to a byte are the byte's. -/
theorem dgn_of {t : List UInt8} (h3 : t.length = 3) (ho : t.all isOct = true) (hv : octV t 0 ≤ 255) : t = dgn (octV t 0) := by
  match t, h3 with
  | [a, b, c], _ =>
    simp only [List.all_cons, List.all_nil, isOct, Bool.and_true, Bool.and_eq_true, decide_eq_true_eq] at ho
    obtain ⟨⟨a1, a2⟩, ⟨b1, b2⟩, c1, c2⟩ := ho
    simp only [octV] at hv ⊢
    have key : ∀ (x : UInt8) (n : Nat), x.toNat = n → x = UInt8.ofNat n := fun x n h => by subst h; simp
    simp only [dgn, List.cons.injEq, and_true]
    exact ⟨key _ _ (by omega), key _ _ (by omega), key _ _ (by omega)⟩
theorem keepH {f : Nat} {args : List AV} {H : AH} {v : AV} {d : Nat} (c : CallR Tryz.prog f args H v (H.skip d)) : CallW Tryz.prog f args H fun x h' => x = v ∧ Keep H.next H h' :=
  c.mono fun x h' ⟨e1, e2⟩ => ⟨e1, by subst e2; exact ⟨Nat.le_add_right _ _, fun _ _ => rfl⟩⟩
theorem ca_ok5 (t : List UInt8) (h3 : t.length = 3) (ho : t.all isOct = true) (hv : octV t 0 ≤ 255) (H : AH) (hH : NG + 1 ≤ H.next) : CallW Tryz.prog 51 [.str t, .str [95, 43, 45]] H fun v h' => v = .bool false ∧ Keep H.next H h' := by
  have hd := dgn_of h3 ho hv
  have he := List.all_eq_true.1 ca_all (octV t 0) (List.mem_range.2 (by omega))
  rw [← hd] at he
  exact keepH (flat5 he (by decide) rfl rfl H (by omega))
/-- A law that tells true out of a memory whose blocks it may not write does so in the world, and leaves what was there. -/
theorem callW_trueRo {f : Nat} {args : List AV} {h : AH} {μ : Mu} {g : G} {w : World} {Q : AV → AH → Prop} (c : CallW Tryz.prog f args h Q) (hQ : ∀ v h', Q v h' → v = .bool true) (hg : GlobOk μ) (s : St μ g h w)
    (hr : ∀ i B m, g i = some B → μ i = some m → B.isRo = true) {cargs : List Value} (ha : VRs μ args cargs) :
    Calls Tryz.prog f ⟨cargs⟩ w fun e w' => e = .returned (.bool true) ∧ Below w.heap.size w w' := by
  refine (c.2 μ g w cargs hg s ha).mono ?_
  rintro e w' ⟨v, h', v', μ', q, rfl, hv, hp⟩
  have := hQ _ _ q
  subst this
  simp only [VR] at hv
  subst hv
  exact ⟨rfl, hp.below hr⟩
theorem pq : Pq Tryz.prog where
  rn := fun H h => h.1
  rk := fun H H' h k => h.keep k
  hm := mixed
  f8 := ⟨_, Tryz.func8, c8, n8⟩
  f16 := ⟨_, Tryz.func16, c16, n16⟩
  f18 := ⟨_, Tryz.func18, c18, n18⟩
  f19 := ⟨_, Tryz.func19, c19, n19⟩
  f20 := ⟨_, Tryz.func20, c20, n20⟩
  f29 := ⟨_, Tryz.func29, c29, n29⟩
  pu := fun t h3 _ H hE => pu50_ok mixed ⟨_, Tryz.func133, c133, n133⟩ ⟨_, Tryz.func81, c81, n81⟩ ⟨_, Tryz.func201, c201, n201⟩ ⟨_, Tryz.func135, c135, n135⟩ ⟨_, Tryz.func82, c82, n82⟩ ⟨_, Tryz.func50, c50, n50⟩ H hE h3
  ca := fun t h3 ho hv H hH => ca_ok5 t h3 ho hv H hH
  f4 := ⟨_, Tryz.func4, c4, n4⟩
  f10 := ⟨_, Tryz.func10, c10, n10⟩
  awake := fun H => callR_of_hook awake_hook rfl
def muE (m : MI) : Mu := fun i => if i = 8 then some m else if i = 1 then some ⟨1, 0, 1⟩ else muG i
def gE (B : AB) : G := fun i => if i = 1 then some B else none
noncomputable def hE (B : AB) : AH := ⟨9, Tr.leaf.put 1 (some B)⟩
theorem glob_muE (m : MI) : GlobOk (muE m) := fun i h => by
  have : i ≠ 8 := by
    intro e; subst e; revert h; decide
  unfold muE
  rw [if_neg this]
  split
  · rename_i e; subst e; exact ⟨1, rfl⟩
  · exact glob_muG i h
theorem st_E {w : World} (hw : NG ≤ w.heap.size) {m : MI} {B : AB} (hm : m.b < w.heap.size) (hB' : ∃ o, w.heap[1]? = some o ∧ BR (muE m) ⟨1, 0, 1⟩ B o) : St (muE m) (gE B) (hE B) w where
  ext := fun i C h => by
    have h' : (Tr.leaf.put 1 (some B)).get i = some C := h
    rw [Tr.get_put] at h'
    unfold gE
    split at h'
    · rename_i e
      rw [if_pos (by simpa using e), h']
    · rw [Tr.get_leaf] at h'
      cases h'
  sim := ⟨fun i C m' h1 h2 => (by
      unfold gE at h1
      split at h1
      · rename_i e
        subst e
        cases h1
        have : m' = ⟨1, 0, 1⟩ := by
          unfold muE at h2
          rw [if_neg (by decide), if_pos rfl] at h2
          exact (Option.some.inj h2).symm
        subst this
        exact hB'
      · cases h1), fun i j C D m1 m2 hij h1 h2 _ _ => (by
      unfold gE at h1 h2
      split at h1
      · split at h2
        · omega
        · cases h2
      · cases h1), fun i m' h => (by
      unfold muE at h
      change i < 9 ∧ _
      have h8 : NG = 8 := rfl
      rw [h8] at hw
      split at h
      · rename_i e
        cases h
        exact ⟨by omega, hm⟩
      · split at h
        · cases h
          exact ⟨by omega, by change 1 < _; omega⟩
        · unfold muG at h
          split at h
          · rename_i hb
            simp only [Nat.blt_eq] at hb
            rw [h8] at hb
            cases h
            exact ⟨by omega, by change i < _; omega⟩
          · cases h), fun i hi => (by
      have : (9 : Nat) ≤ i := hi
      unfold gE
      rw [if_neg (by omega)])⟩
/-- The law, for a text. -/
theorem quotes_law (s : ByteArray) (w : World) (hw : NG ≤ w.heap.size) (hR : ∃ e fr u a, w.heap[1]? = some (.cells #[.iface u (.pointer (some a))] e fr) ∧ a.spot = none ∧ a.block < w.heap.size) :
    Calls Tryz.prog 4 #[.string s] w fun e w' => e = .returned (.bool true) ∧ Below w.heap.size w w' := by
  obtain ⟨e, fr, u, a, hh, hsp, hlt⟩ := hR
  obtain ⟨b, off, spot⟩ := a
  simp only at hsp hlt
  subst hsp
  refine callW_trueRo (h := hE (.ro e [.ifc u (.ptr 8 0)])) (μ := muE ⟨b, off, 0⟩) (g := gE (.ro e [.ifc u (.ptr 8 0)]))
    (quotes_ok pq (hE (.ro e [.ifc u (.ptr 8 0)])) ⟨show NG + 1 ≤ 9 from by decide, e, u, 0, by change (Tr.leaf.put 1 _).get 1 = _; rw [Tr.get_put, if_pos rfl]⟩ s.data.toList) (fun _ _ h => h) (glob_muE _) (st_E hw hlt ⟨_, hh, ?_⟩)
    (fun i B m h _ => by
      unfold gE at h
      split at h
      · cases h; rfl
      · cases h) ?_
  · simp only [BR]
    refine ⟨_, fr, rfl, rfl, Nat.le_refl _, ?_⟩
    intro k x hx
    have : k = 0 := by
      have := (List.getElem?_eq_some_iff.1 hx).1
      simp at this
      exact this
    subst this
    simp only [List.getElem?_cons_zero, Option.some.injEq] at hx
    subst hx
    refine ⟨_, rfl, ?_⟩
    simp only [VR]
    exact ⟨_, rfl, ⟨b, off, 0⟩, by unfold muE; rw [if_pos rfl], rfl⟩
  · simp [VRs, VR]
section
variable {P : Program} {w : World}
theorem trod_ptr {enc : TypeId × Value → Unit} {sp : Nat → Bool} {held : Bool} {fuel : Nat} {t : TypeId} {cs : List Value} {d : DataW Unit} {p : List MemPlace} (h : DataW.trod enc P w 0 sp held fuel t cs = some (.ptr d, p)) :
    ∃ e a, P.underlying t = some (.pointer e) ∧ cs = [.pointer (some a)] := by
  cases fuel with
  | zero => simp [DataW.trod] at h
  | succ n =>
    unfold DataW.trod at h
    split at h
    case h_6 e a hu =>
      exact ⟨e, a, hu, rfl⟩
    all_goals (first | (simp at h; done) | skip)
    all_goals (repeat' (first | (split at h))) 
    all_goals (try (simp only [Option.map_eq_some_iff, Option.bind_eq_some_iff, Prod.mk.injEq] at h))
    all_goals (first | (simp at h; done) | skip)
theorem trod_iface {enc : TypeId × Value → Unit} {sp : Nat → Bool} {fuel : Nat} {t : TypeId} {ms : Array (String × TypeId)} {cs : List Value} {name : String} {d : DataW Unit} {p : List MemPlace} (ht : P.underlying t = some (.interface ms))
    (h : DataW.trod enc P w 0 sp false fuel t cs = some (.iface name (.ptr d), p)) : ∃ u v e a, cs = [.iface u v] ∧ P.underlying u = some (.pointer e) ∧ v.cells.toList = [.pointer (some a)] := by
  cases fuel with
  | zero => simp [DataW.trod] at h
  | succ n =>
    unfold DataW.trod at h
    rw [ht] at h
    split at h
    all_goals (first | (simp at h; done) | (rename_i hh; simp at hh; done) | skip)
    rename_i u v _
    split at h
    · cases h
    · simp only [Option.map_eq_some_iff, Prod.mk.injEq, DataW.iface.injEq] at h
      obtain ⟨x, hx, ⟨_, h1⟩, _⟩ := h
      obtain ⟨x1, x2⟩ := x
      simp only at h1
      subst h1
      obtain ⟨e, a, h1, h2⟩ := trod_ptr hx
      exact ⟨u, v, e, a, rfl, h1, h2⟩
    · cases h
theorem laidVars_read {n : String} {d : DataW Unit} : ∀ {l : List (String × DataW Unit)} {ps : List MemPlace}, DataW.LaidVars P w l ps → (n, d) ∈ l →
    ∃ g t cs fuel p, P.globalNamed n = some g ∧ (P.globals[g]?).map (·.type) = some t ∧ w.var? P n = some cs ∧ DataW.trod (fun _ => ()) P w 0 (fun _ => true) false fuel t cs.toList = some (d, p) ∧ ∀ x ∈ MemPlace.row ⟨g, 0, none⟩ cs.size, x ∈ ps
  | [], _, _, h => by cases h
  | (m, e) :: r, ps, ⟨g, t, cs, f, p, q, hg, ht, hv, hd, hr, hps⟩, h => by
    rcases List.mem_cons.1 h with e | h
    · cases e
      exact ⟨g, t, cs, f, p, hg, ht, hv, hd, fun x hx => by rw [hps]; exact List.mem_append_left _ (List.mem_append_left _ hx)⟩
    · obtain ⟨g', t', cs', f', p', h1, h2, h3, h4, h5⟩ := laidVars_read hr h
      exact ⟨g', t', cs', f', p', h1, h2, h3, h4, fun x hx => by rw [hps]; exact List.mem_append_right _ (h5 x hx)⟩
/-- What lies in a variable that holds an error. -/
theorem err_read {l : List (String × DataW Unit)} {n name : String} {d : DataW Unit} {g t : Nat} {ms : Array (String × TypeId)} (h : laidMet P l w) (hm : (n, DataW.iface name (.ptr d)) ∈ l) (hg : P.globalNamed n = some g) (ht : (P.globals[g]?).map (·.type) = some t)
    (hu : P.underlying t = some (.interface ms)) : ∃ e fr u a, w.heap[g]? = some (.cells #[.iface u (.pointer (some a))] e fr) ∧ a.spot = none ∧ a.block < w.heap.size := by
  obtain ⟨ps, hv, _, hc⟩ := h
  obtain ⟨g', t', cs, f, p, h1, h2, h3, h4, h5⟩ := laidVars_read hv hm
  obtain rfl : g' = g := Option.some.inj (h1.symm.trans hg)
  obtain rfl : t' = t := Option.some.inj (h2.symm.trans ht)
  obtain ⟨u, v, e, a, hcs, hue, hva⟩ := trod_iface hu h4
  have hcs' : cs = #[.iface u v] := by cases cs; simp_all
  subst hcs'
  have hh : ∃ e fr, w.heap[g']? = some (.cells #[.iface u v] e fr) := by
    simp only [World.var?, hg, Option.bind_some] at h3
    split at h3
    · rename_i hh
      cases h3
      exact ⟨_, _, hh⟩
    · cases h3
  obtain ⟨e2, fr, hh⟩ := hh
  have hok := (hc g' 0 (h5 _ (MemPlace.mem_row.2 ⟨0, Nat.zero_lt_one, rfl⟩))).2 u v (by simp [World.cell?, hh])
  simp only [Value.okWide, Cell.okWide, Cell.ok, hue] at hok
  cases v <;> simp [Value.cells] at hva <;> (try (exact hok.elim))
  subst hva
  obtain ⟨_, hsp, row, n, hsh, _⟩ := hok
  refine ⟨e2, fr, u, a, hh, hsp, ?_⟩
  simp only [World.shape?] at hsh
  split at hsh
  · rename_i hb
    exact (Array.getElem?_eq_some_iff.1 hb).1
  · cases hsh
end
/-- What the world holds in the variable of ErrSyntax. -/
theorem err_world {W : World} (h : laidMetH Tryz.prog YtadcebncbpopdaaGreatDoor.laidL W) : ∃ e fr u a, W.heap[1]? = some (.cells #[.iface u (.pointer (some a))] e fr) ∧ a.spot = none ∧ a.block < W.heap.size :=
  err_read (l := YtadcebncbpopdaaGreatDoor.laidL.filter fun x => x.2.handleName?.isNone) (n := "strconv.ErrSyntax") (g := 1) (laidMetH_iff.1 h).1
    (List.mem_of_getElem? (i := 5) (show (YtadcebncbpopdaaGreatDoor.laidL.filter fun x => x.2.handleName?.isNone)[5]? = some ("strconv.ErrSyntax", YtadcebncbpopdaaGreatDoor.Rows.laid_strconv_ErrSyntax) by kernel_rfl)) (by kernel_rfl) (by kernel_rfl : (Tryz.prog.globals[1]?).map (·.type) = some 58) Tryz.underlying58
end Go.AM
