/-
  AmBytes: a part of the abstract machine that stands for runs of the program in the model: no statement of the seat is in it.
-/
import Derived.Test.YtadcebncbpopdaaGreatDoorAmPart
set_option linter.unusedSimpArgs false
noncomputable section
namespace Go.AM
/-! ## Bytes in slices -/
theorem wrap64 {x : Int} (h1 : -(2^63) ≤ x) (h2 : x < 2^63) : IntKind.i64.wrap x = x := by
  have : IntKind.i64.wrap x = (x + 2^63) % 2^64 - 2^63 := by
    simp [IntKind.wrap, IntKind.bits, IntKind.signed, Int.bmod]
    omega
  rw [this]; omega
theorem bytesOf_cells : ∀ s : List UInt8, bytesOfA (cellsOfBytes s) = some s
  | [] => rfl
  | b :: r => by
    have := bytesOf_cells r
    simp only [cellsOfBytes] at this
    simp [cellsOfBytes, bytesOfA, byteOfA, this]
theorem cells_length (s : List UInt8) : (cellsOfBytes s).length = s.length := by simp [cellsOfBytes]
theorem cells_append (s t : List UInt8) : cellsOfBytes s ++ cellsOfBytes t = cellsOfBytes (s ++ t) := by simp [cellsOfBytes]
theorem cells_drop (s : List UInt8) (n : Nat) : (cellsOfBytes s).drop n = cellsOfBytes (s.drop n) := by simp [cellsOfBytes]
theorem cells_take (s : List UInt8) (n : Nat) : (cellsOfBytes s).take n = cellsOfBytes (s.take n) := by simp [cellsOfBytes]

@[simp] theorem textA_skip (h : AH) (d : Nat) (v : AV) : textA (h.skip d) v = textA h v := by cases v <;> rfl

theorem cells_one (s : List UInt8) : (cellsOfBytes s).all AV.one = true := by
  rw [List.all_eq_true]
  intro x hx
  simp only [cellsOfBytes, List.mem_map] at hx
  obtain ⟨b, _, rfl⟩ := hx
  rfl
theorem cells_one' (s : List UInt8) : ∀ x, x ∈ cellsOfBytes s → AV.one x = true := List.all_eq_true.1 (cells_one s)

/-- A slice of bytes, n of them, that are s. -/
def Bytes (h : AH) (i o n : Nat) (s : List UInt8) : Prop := s.length = n ∧ readCells h i o n = some (cellsOfBytes s)

theorem Bytes.text {h : AH} {i o n : Nat} {s : List UInt8} (b : Bytes h i o n s) (c : Nat) (x : Bool) : textA h (.sl i o n c x 1) = some s := by
  rw [textA, if_pos rfl, b.2]; exact bytesOf_cells s

theorem Bytes.elems {h : AH} {i o n : Nat} {s : List UInt8} (b : Bytes h i o n s) (c : Nat) (x : Bool) : elemsA h 1 (.sl i o n c x 1) = some (n, cellsOfBytes s) := by
  rw [elemsA, if_pos rfl, Nat.mul_one, b.2]; rfl

theorem Bytes.sub {h : AH} {i o n : Nat} {s : List UInt8} (b : Bytes h i o n s) {p q : Nat} (h1 : p ≤ q) (h2 : q ≤ n) : Bytes h i (o + p) (q - p) ((s.drop p).take (q - p)) := by
  obtain ⟨hl, hr⟩ := b
  refine ⟨by simp; omega, ?_⟩
  unfold readCells at hr ⊢
  cases hb : h.get i with
  | none => rw [hb] at hr; cases hr
  | some B =>
    rw [hb] at hr
    simp only at hr ⊢
    cases hcs : B.cs with
    | none => rw [hcs] at hr; cases hr
    | some c =>
      rw [hcs] at hr
      simp only [cut] at hr ⊢
      split at hr
      · rename_i hle
        rw [if_pos (by omega)]
        simp only [Option.some.injEq] at hr ⊢
        rw [← cells_take, ← cells_drop, ← hr]
        rw [List.drop_take, List.drop_drop, List.take_take]
        congr 1
        omega
      · cases hr

theorem Bytes.of_get {h : AH} {i : Nat} {x fz : Bool} {e : TypeId} {s t : List UInt8} (o : Nat) (hg : h.get i = some (.cells x fz e (cellsOfBytes s))) (ht : t = s.drop o) (ho : o ≤ s.length) : Bytes h i o t.length t := by
  subst ht
  refine ⟨rfl, ?_⟩
  simp only [readCells, hg, AB.cs, cut, cells_length, List.length_drop]
  rw [if_pos (by omega), cells_drop, cells_take]
  rw [List.take_of_length_le (by simp)]

theorem Bytes.congr {h k : AH} {i o n : Nat} {s : List UInt8} (b : Bytes h i o n s) (e : k.get i = h.get i) : Bytes k i o n s := by
  refine ⟨b.1, ?_⟩
  have := b.2
  unfold readCells at this ⊢
  rw [e]; exact this
end Go.AM
end
