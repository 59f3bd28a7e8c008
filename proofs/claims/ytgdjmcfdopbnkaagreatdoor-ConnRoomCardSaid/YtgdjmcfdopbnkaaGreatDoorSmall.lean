/-
  What the laws on one connection call besides: closed calls by the kernel, laid into whatever memory.
-/
import Derived.Test.YtgdjmcfdopbnkaaGreatDoorAwake
import Derived.Test.YtgdjmcfdopbnkaaGreatDoorConn3
set_option maxRecDepth 1000000
namespace Go.AM
open Go.Proofs Go.RowKit
theorem c7 : compFun Tryz.prog Tryz.f7 = some a7 := by kernel_rfl
theorem n7 : (Tryz.f7.name == "runtime.NumGoroutine") = false := by kernel_rfl
theorem c9 : compFun Tryz.prog Tryz.f9 = some a9 := by kernel_rfl
theorem n9 : (Tryz.f9.name == "runtime.NumGoroutine") = false := by kernel_rfl
theorem c31 : compFun Tryz.prog Tryz.f31 = some a31 := by kernel_rfl
theorem n31 : (Tryz.f31.name == "runtime.NumGoroutine") = false := by kernel_rfl
theorem c56 : compFun Tryz.prog Tryz.f56 = some a56 := by kernel_rfl
theorem n56 : (Tryz.f56.name == "runtime.NumGoroutine") = false := by kernel_rfl
theorem c108 : compFun Tryz.prog Tryz.f108 = some a108 := by kernel_rfl
theorem n108 : (Tryz.f108.name == "runtime.NumGoroutine") = false := by kernel_rfl
theorem c109 : compFun Tryz.prog Tryz.f109 = some a109 := by kernel_rfl
theorem n109 : (Tryz.f109.name == "runtime.NumGoroutine") = false := by kernel_rfl
theorem c186 : compFun Tryz.prog Tryz.f186 = some a186 := by kernel_rfl
theorem n186 : (Tryz.f186.name == "runtime.NumGoroutine") = false := by kernel_rfl
theorem c187 : compFun Tryz.prog Tryz.f187 = some a187 := by kernel_rfl
theorem n187 : (Tryz.f187.name == "runtime.NumGoroutine") = false := by kernel_rfl
def tab2 : List (Nat × AFun) := [(7, a7), (9, a9), (31, a31), (56, a56), (108, a108), (109, a109), (186, a186), (187, a187)] ++ tab
theorem tab2_all : ∀ x ∈ tab2, EntryOk Tryz.prog x := by
  intro x hx
  rcases List.mem_append.1 hx with h | h
  · simp only [List.mem_cons, List.not_mem_nil, or_false] at h
    rcases h with rfl | rfl | rfl | rfl | rfl | rfl | rfl | rfl
    · exact ⟨_, Tryz.func7, c7, n7⟩
    · exact ⟨_, Tryz.func9, c9, n9⟩
    · exact ⟨_, Tryz.func31, c31, n31⟩
    · exact ⟨_, Tryz.func56, c56, n56⟩
    · exact ⟨_, Tryz.func108, c108, n108⟩
    · exact ⟨_, Tryz.func109, c109, n109⟩
    · exact ⟨_, Tryz.func186, c186, n186⟩
    · exact ⟨_, Tryz.func187, c187, n187⟩
  · exact tl0 x (tab_t ▸ h)
theorem funs2 : FunsOk Tryz.prog (look tab2) := funs_of_all tab2_all
noncomputable abbrev run2 : CallH := acall 5000 hooks (look tab2) 100
theorem ok2 : CallOk Tryz.prog run2 := acall_ok mixed hooks_ok funs2 100
theorem st_run : chk (run2 12 [.int .i64 2] h0) (.tup [.ptr 84 0, .ptr 1815 0]) 1816 memL = true := by kernel_rfl
theorem mem_run : chk (run2 31 [.ptr 84 0] ⟨1816, trL memL⟩) .nils 1948 memL = true := by kernel_rfl
theorem one_v : chk (run2 218 [.str ver] ⟨8, .leaf⟩) (.tup [.ifc 183 (.agg [.str ver]), .int .i64 (-1)]) 11 [] = true := by kernel_rfl
theorem one_q : chk (run2 218 [.str qui] ⟨8, .leaf⟩) (.tup [.ifc 183 (.agg [.str qui]), .int .i64 (-1)]) 11 [] = true := by kernel_rfl
theorem to_v : chk (run2 69 [.ifc 183 (.agg [.str ver])] ⟨8, .leaf⟩) (cmd ver) 17 [] = true := by kernel_rfl
theorem to_q : chk (run2 69 [.ifc 183 (.agg [.str qui])] ⟨8, .leaf⟩) (cmd qui) 17 [] = true := by kernel_rfl
theorem to_0 : chk (run2 69 [.nili] ⟨8, .leaf⟩) cmd0 17 [] = true := by kernel_rfl
theorem quiet_v : chk (run2 26 [cmd ver] ⟨8, .leaf⟩) (.bool false) 15 [] = true := by kernel_rfl
theorem quiet_q : chk (run2 26 [cmd qui] ⟨8, .leaf⟩) (.bool false) 15 [] = true := by kernel_rfl
theorem do_v : chk (run2 76 [.ptr 8 0, cmd ver, .int .i64 0] ⟨9, .leaf⟩) (.tup [.sl 17 0 1 1 true 7, .int .i64 0]) 18 [(17, ansB)] = true := by kernel_rfl
theorem do_q : chk (run2 76 [.ptr 8 0, cmd qui, .int .i64 0] ⟨9, .leaf⟩) (.tup [.nils, .int .i64 0]) 16 [] = true := by kernel_rfl
theorem all_v : chk (run2 66 [.sl 8 0 1 1 true 7] ⟨9, Tr.leaf.put 8 (some ansB)⟩) (.sl 12 0 18 18 false 1) 13 [(8, ansB), (12, .cells false false 5 (cellsOfBytes verReply))] = true := by kernel_rfl
theorem all_q : chk (run2 66 [.nils] ⟨8, .leaf⟩) .nils 8 [] = true := by kernel_rfl
theorem is_q : chk (run2 16 [cmd qui, .str [119,111,114,100], .str qui] ⟨8, .leaf⟩) (.bool true) 9 [] = true := by kernel_rfl

theorem flat0 {f nx : Nat} {args : List AV} {v : AV} (he : chk (run2 f args ⟨8, .leaf⟩) v nx [] = true) (hx : 8 ≤ nx) (hb : AV.bels 0 args = true) (hv : v.bel 0 = true) (H : AH) (hH : NG ≤ H.next) : CallR Tryz.prog f args H v (H.skip (nx - 8)) := by
  have h8 : NG = 8 := rfl
  have := flat_call ok2 he (by rw [h8]; exact Nat.le_refl _) hx (AV.bels_mono (Nat.zero_le _) _ hb) hv (ρ := id) (H := H) (fun i hi => by rw [h8] at hH; exact Nat.lt_of_lt_of_le hi hH) (fun _ _ => rfl)
  rwa [rens_flat hb] at this
/-- Numbers below 8 stay, 8 is s. -/
def rh (s : Nat) : Nat → Nat := fun i => if i = 8 then s else i
theorem rh_lt {s : Nat} {H : AH} (hH : NG ≤ H.next) (hs : s < H.next) : ∀ i, i < 9 → rh s i < H.next := fun i hi => by
  have h8 : NG = 8 := rfl
  rw [h8] at hH
  unfold rh
  split <;> omega
theorem rh_g {s : Nat} : ∀ i, i < NG → rh s i = i := fun i hi => by
  have h8 : NG = 8 := rfl
  rw [h8] at hi
  unfold rh
  rw [if_neg (by omega)]

theorem gs : Gs Tryz.prog where
  hm := mixed
  f11 := ⟨_, Tryz.func11, c11, n11⟩
  f13 := ⟨_, Tryz.func13, c13, n13⟩
  f14 := ⟨_, Tryz.func14, c14, n14⟩
  f15 := ⟨_, Tryz.func15, c15, n15⟩
  f17 := ⟨_, Tryz.func17, c17, n17⟩
  f18 := ⟨_, Tryz.func18, c18, n18⟩
  f32 := ⟨_, Tryz.func32, c32, n32⟩
  f35 := ⟨_, Tryz.func35, c35, n35⟩
  f37 := ⟨_, Tryz.func37, c37, n37⟩
  f39 := ⟨_, Tryz.func39, c39, n39⟩
  f40 := ⟨_, Tryz.func40, c40, n40⟩
  f68 := ⟨_, Tryz.func68, c68, n68⟩
  f131 := ⟨_, Tryz.func131, c131, n131⟩
  f132 := ⟨_, Tryz.func132, c132, n132⟩
  f215 := ⟨_, Tryz.func215, c215, n215⟩
  f216 := ⟨_, Tryz.func216, c216, n216⟩
  f217 := ⟨_, Tryz.func217, c217, n217⟩
  f294 := ⟨_, Tryz.func294, c294, n294⟩
  f355 := ⟨_, Tryz.func355, c355, n355⟩
  f387 := ⟨_, Tryz.func387, c387, n387⟩
  one := fun w hw H hH => by
    rcases hw with rfl | rfl
    · exact flat0 one_v (by decide) rfl rfl H hH
    · exact flat0 one_q (by decide) rfl rfl H hH
  to := fun w hw H hH => by
    rcases hw with rfl | rfl
    · exact flat0 to_v (by decide) rfl rfl H hH
    · exact flat0 to_q (by decide) rfl rfl H hH
  to0 := fun H hH => flat0 to_0 (by decide) rfl rfl H hH
  quiet := fun w hw H hH => by
    rcases hw with rfl | rfl
    · exact flat0 quiet_v (by decide) rfl rfl H hH
    · exact flat0 quiet_q (by decide) rfl rfl H hH
  dov := fun H s hH hs => by
    have := keep_call ok2 do_v (by decide) (by decide) (by decide) rfl (ρ := rh s) (H := H) (rh_lt hH hs) rh_g
    have e : (8 : Nat) + H.next = H.next + 8 := Nat.add_comm _ _
    simpa [rh, reno, AV.ren, AV.rens, AB.ren, cmd, ansB, e] using this
  doq := fun H s hH hs => by
    have := flat_call ok2 do_q (by decide) (by decide) rfl rfl (ρ := rh s) (H := H) (rh_lt hH hs) rh_g
    simpa [rh, AV.ren, AV.rens, cmd] using this
  allv := fun H l hH hl hg => by
    have hA : ansB.ren (rh l) = ansB := by simp [AB.ren, AV.rens, AV.ren, ansB]
    have := part_call ok2 all_v (by decide) (by decide) (by decide) (by decide) rfl rfl (ρ := rh l) (H := H) (rh_lt hH hl) rh_g (by rw [hA]; exact hg)
    have e : (3 : Nat) + H.next = H.next + 3 := Nat.add_comm _ _
    have e2 : AV.rens (reno (rh l) 9 H.next) (cellsOfBytes verReply) = cellsOfBytes verReply := rens_flat rfl
    simpa [rh, reno, AV.ren, AV.rens, AB.ren, e, e2] using this
  allq := fun H hH => flat0 all_q (by decide) rfl rfl H hH
  awake := fun H => callR_of_hook awake_hook rfl
  store := by
    obtain ⟨k, hk, hnx, hB⟩ := of_chk st_run
    exact ⟨k, hnx, fun x hx => (hB x hx).1, callR_of_ok ok2 hk⟩
  mem := fun H hH hL => parts_call ok2 mem_run (by decide) (by decide) (by decide) (by decide) rfl hH hL
  isq := fun H hH => ⟨1, flat0 is_q (by decide) rfl rfl H hH⟩
theorem quit_law (t more : ByteArray) (w : World) (hw : NG ≤ w.heap.size) : Calls Tryz.prog 9 #[.string t, .string more] w fun e w' => e = .returned (.bool true) ∧ Below w.heap.size w w' := by
  refine callW_true (quit_ok gs ⟨_, Tryz.func9, c9, n9⟩ t.data.toList more.data.toList) w hw ?_
  simp [VRs, VR]
end Go.AM
